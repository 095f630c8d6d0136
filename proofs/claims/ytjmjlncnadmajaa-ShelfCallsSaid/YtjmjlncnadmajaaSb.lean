/-
  Parts of the proof: no statement of the seat is proved here.
-/
import Derived.Test.YtjmjlncnadmajaaSa
import Derived.Test.YtjmjlncnadmajaaEd
set_option linter.unusedSimpArgs false
set_option linter.unusedVariables false

namespace Go.Proofs.T
open Go Go.Hb

/-- Where a name is, or would be. -/
def pos (l : List Ob) (name : ByteArray) : Nat := (l.takeWhile fun x => ltb x.name name).length
def there (l : List Ob) (name : ByteArray) : Prop := pos l name < l.length ∧ (l.getD (pos l name) ob0).name = name
instance (l : List Ob) (name : ByteArray) : Decidable (there l name) := by unfold there; infer_instance

theorem pos_le (l : List Ob) (name : ByteArray) : pos l name ≤ l.length := by
  unfold pos
  exact (List.takeWhile_sublist _).length_le
theorem pos_lo : ∀ (l : List Ob) (name : ByteArray) (k : Nat), k < pos l name → ltb (l.getD k ob0).name name = true
  | [], name, k, h => by simp [pos] at h
  | x :: l, name, k, h => by
    unfold pos at h
    rw [List.takeWhile_cons] at h
    split at h
    · rename_i hx
      cases k with
      | zero => exact hx
      | succ k =>
        simp only [List.length_cons] at h
        have := pos_lo l name k (by unfold pos; omega)
        simpa using this
    · simp at h
theorem pos_at : ∀ (l : List Ob) (name : ByteArray), pos l name < l.length → ltb (l.getD (pos l name) ob0).name name = false
  | [], name, h => by simp at h
  | x :: l, name, h => by
    unfold pos at h ⊢
    rw [List.takeWhile_cons] at h ⊢
    split
    · rename_i hx
      rw [if_pos hx] at h
      simp only [List.length_cons] at h ⊢
      have := pos_at l name (by unfold pos; omega)
      unfold pos at this
      simpa using this
    · rename_i hx
      simpa using hx
theorem At.pos {l : List Ob} {name : ByteArray} {i : Nat} (h : At l name i) : i = pos l name := by
  rcases Nat.lt_trichotomy i (T.pos l name) with h1 | h1 | h1
  · have := pos_lo l name i h1
    rw [h.hi i (Nat.le_refl _) (Nat.lt_of_lt_of_le h1 (pos_le l name))] at this
    cases this
  · exact h1
  · have := h.lo _ h1
    rw [pos_at l name (Nat.lt_of_lt_of_le h1 h.le)] at this
    cases this

theorem bad0 {l : List Ob} {i : Nat} (h : bad l i = 0) : Facts l i := by
  unfold bad at h
  split at h
  · cases h
  · rename_i h1
    split at h
    · cases h
    · rename_i h2
      split at h
      · cases h
      · rename_i h3
        split at h
        · cases h
        · rename_i h4
          split at h
          · cases h
          · rename_i h5
            exact ⟨Decidable.not_not.1 h1, h2, h3, h4, h5⟩

theorem chkAt0 {l : List Ob} : ∀ {n i : Nat}, chkAt l n i = 0 → ∀ k, i ≤ k → k < i + n → bad l k = 0
  | 0, i, _, k, h1, h2 => by omega
  | n + 1, i, h, k, h1, h2 => by
    rw [chkAt] at h
    split at h
    · rename_i hb
      by_cases hk : k = i
      · rw [hk]; exact hb
      · exact chkAt0 h k (by omega) (by omega)
    · rename_i hb
      exact absurd h hb
theorem chkAt_of {l : List Ob} : ∀ {n i : Nat}, (∀ k, i ≤ k → k < i + n → bad l k = 0) → chkAt l n i = 0
  | 0, _, _ => rfl
  | n + 1, i, h => by
    rw [chkAt, if_pos (h i (Nat.le_refl _) (by omega))]
    exact chkAt_of fun k h1 h2 => h k (by omega) (by omega)
theorem check0 {l : List Ob} : check l = 0 ↔ ∀ k, k < l.length → Facts l k :=
  ⟨fun h k hk => bad0 (chkAt0 h k (Nat.zero_le _) (by omega)), fun h => chkAt_of fun k _ h2 => (h k (by omega)).bad⟩

theorem Facts.lt {l : List Ob} {i : Nat} (h : Facts l i) (h0 : 0 < i) : ltb (l.getD (i - 1) ob0).name (l.getD i ob0).name = true := by
  rcases ltb_tri (l.getD (i - 1) ob0).name (l.getD i ob0).name with h1 | h1 | h1
  · exact h1
  · exact absurd ⟨h0, h1⟩ h.twice
  · exact absurd ⟨h0, h1⟩ h.less
theorem sorted_of {l : List Ob} (h : ∀ k, k < l.length → Facts l k) : Sorted l := by
  intro i j hij hj
  induction j with
  | zero => omega
  | succ j ih =>
    have := (h (j + 1) hj).lt (by omega)
    simp only [Nat.add_sub_cancel] at this
    by_cases hc : i = j
    · rw [hc]; exact this
    · exact ltb_trans (ih (by omega) (by omega)) this

theorem find27' (s : Sh) (name : ByteArray) (hs : Sorted s.objs) (hl : s.objs.length ≤ 1099511627776) : Pure Try.prog 27 [sAV s, .s name] (fun r => r = .tup [.i .i64 (pos s.objs name : Int), .b (decide (there s.objs name))]) :=
  Pure.mono (find27 s name hs hl) fun r ⟨i, hat, hr⟩ => by
    rw [hr, hat.pos]
    rfl

def upd (l : List Ob) (name data : ByteArray) : List Ob :=
  if there l name then l.set (pos l name) ⟨name, data, (l.getD (pos l name) ob0).data, true⟩ else ins l (pos l name) ⟨name, data, ⟨#[]⟩, false⟩

def put (s : Sh) (name data : ByteArray) : Sh × Int :=
  if check s.objs ≠ 0 then (s, check s.objs)
  else if ¬ Named name then (s, 7)
  else if 65536 < data.size then (s, 6)
  else if fateOf s = 4 then (⟨s.objs, s.fates.tail⟩, 17)
  else if fateOf s = 1 ∨ fateOf s = 3 then (⟨s.objs, s.fates.tail⟩, 0)
  else (⟨upd s.objs name (if fateOf s = 2 then flip data else data), s.fates.tail⟩, 0)

theorem set_cells {l : List Ob} {i : Nat} (hi : i < l.length) (y : Ob) : ∀ a j, a < l.length → j < 4 → updCell (cellO l) (0 + i) 0 [.s y.name, .s y.data, .s y.was, .b y.had] (0 + a) j = cellO (l.set i y) a j := by
  intro a j ha hj
  rw [Nat.zero_add, Nat.zero_add]
  by_cases h : a = i
  · subst h
    have hb : Nat.beq a a = true := by simp
    have hg : (l.set a y).getD a ob0 = y := by simp [hi]
    simp only [updCell, hb]
    unfold cellO
    rw [hg]
    match j, hj with
    | 0, _ => rfl
    | 1, _ => rfl
    | 2, _ => rfl
    | 3, _ => rfl
  · have hb : Nat.beq a i = false := by
      cases e : Nat.beq a i with
      | false => rfl
      | true => exact absurd (Nat.eq_of_beq_eq_true e) h
    have hg : (l.set i y).getD a ob0 = l.getD a ob0 := by
      rw [List.getD_eq_getElem?_getD, List.getD_eq_getElem?_getD, List.getElem?_set_ne (fun e => h e.symm)]
    simp only [updCell, hb]
    unfold cellO
    rw [hg]

theorem put13 (s : Sh) (name data : ByteArray) (hl : Small s) (hd : data.size ≤ 1099511627776) : Pure Try.prog 13 [sAV s, .s name, .s data] (fun r => r = .tup [sAV (put s name data).1, .i .i64 (put s name data).2]) := by
  refine Pure.weak (Post := fun r => AVle r (.tup [sAV (put s name data).1, .i .i64 (put s name data).2])) (Pure.of (XCall.body is13 rfl ?_)) fun r h => ⟨_, rfl, h⟩
  refine XCall.lenv (check17 s hl.1) rfl ?_
  refine And.intro rfl (And.intro (AVles.refl _) ?_)
  dsimp only [St.put, rn, rns, rid, rnH, rnB, dead, AV.cells, setAt, enumEnv, List.length_nil, List.length_cons, List.getElem?_nil, List.getElem?_cons_zero, List.getElem?_cons_succ, Nat.reduceAdd, Nat.reduceSub, Nat.add_zero]
  refine And.intro (fun hc => ?_) (fun hc => ?_)
  · have hc0 : check s.objs ≠ 0 := fun e => by rw [e] at hc; cases hc
    refine XCall.givv (same24 s hl) ?_
    refine And.intro rfl (And.intro (AVles.refl _) ?_)
    refine And.intro rfl ?_
    unfold put
    rw [if_pos hc0]
    exact AVle.refl _
  have hc0 : check s.objs = 0 := by
    cases e : (check s.objs != 0) with
    | true => rw [e] at hc; cases hc
    | false => simpa using e
  refine XCall.lenv (named_spec name) rfl ?_
  refine And.intro rfl (And.intro (AVles.refl _) ?_)
  dsimp only [St.put, rn, rns, rid, rnH, rnB, dead, AV.cells, setAt, enumEnv, List.length_nil, List.length_cons, List.getElem?_nil, List.getElem?_cons_zero, List.getElem?_cons_succ, Nat.reduceAdd, Nat.reduceSub, Nat.add_zero]
  refine And.intro (fun hn => ?_) (fun hn => ?_)
  · have hnn : ¬ Named name := fun hN => by
      rw [decide_eq_true (p := 1 ≤ name.size ∧ name.size ≤ 100) hN] at hn
      cases hn
    refine XCall.givv (same24 s hl) ?_
    refine And.intro rfl (And.intro (AVles.refl _) ?_)
    refine And.intro rfl ?_
    unfold put
    rw [if_neg (fun h => h hc0), if_pos hnn]
    exact AVle.refl _
  have hN : Named name := by
    cases h1 : decide (1 ≤ name.size ∧ name.size ≤ 100) with
    | true => exact of_decide_eq_true h1
    | false => rw [h1] at hn; cases hn
  dsimp only [St.put, rn, rns, rid, rnH, rnB, dead, AV.cells, setAt, enumEnv, List.length_nil, List.length_cons, List.getElem?_nil, List.getElem?_cons_zero, List.getElem?_cons_succ, Nat.reduceAdd, Nat.reduceSub, Nat.add_zero]
  refine And.intro (fun hb => ?_) (fun hb => ?_)
  · have hbb : 65536 < data.size := by have := of_decide_eq_true hb; omega
    refine XCall.givv (same24 s hl) ?_
    refine And.intro rfl (And.intro (AVles.refl _) ?_)
    refine And.intro rfl ?_
    unfold put
    rw [if_neg (fun h => h hc0), if_neg (fun h => h hN), if_pos hbb]
    exact AVle.refl _
  have hbb : ¬ 65536 < data.size := by have := of_decide_eq_false hb; omega
  dsimp only [St.put, rn, rns, rid, rnH, rnB, dead, AV.cells, setAt, enumEnv, List.length_nil, List.length_cons, List.getElem?_nil, List.getElem?_cons_zero, List.getElem?_cons_succ, Nat.reduceAdd, Nat.reduceSub, Nat.add_zero]
  refine XCall.frame0 (next26 s hl) rfl rfl ?_
  dsimp only [St.put, rn, rns, rid, rnH, rnB, dead, AV.cells, setAt, enumEnv, List.length_nil, List.length_cons, List.getElem?_nil, List.getElem?_cons_zero, List.getElem?_cons_succ, Nat.reduceAdd, Nat.reduceSub, Nat.add_zero]
  have hS : Sorted s.objs := sorted_of (check0.1 hc0)
  have leaf : AVle (.agg [.fs s.objs.length 4 fun i j => cellO s.objs (0 + i) j, fAV s.fates.tail]) (sAV ⟨s.objs, s.fates.tail⟩) := AVle.agg (AVles.cons AVle.fs0 (AVles.refl _))
  refine And.intro (fun h4 => ?_) (fun h4 => ?_)
  · refine And.intro (Nat.le_of_eq (Nat.zero_add _)) ?_
    refine And.intro rfl ?_
    unfold put
    rw [if_neg (fun h => h hc0), if_neg (fun h => h hN), if_neg hbb, if_pos (eq_of_beq h4)]
    exact AVle.tup (AVles.cons leaf (AVles.refl _))
  have n4 : ¬ fateOf s = 4 := fun e => by rw [e] at h4; cases h4
  refine And.intro (fun h1 => ?_) (fun h1 => ?_)
  · refine And.intro (fun _ => ?_) (fun h => by rw [h1] at h; cases h)
    refine And.intro (Nat.le_of_eq (Nat.zero_add _)) ?_
    refine And.intro rfl ?_
    unfold put
    rw [if_neg (fun h => h hc0), if_neg (fun h => h hN), if_neg hbb, if_neg n4, if_pos (.inl (eq_of_beq h1))]
    exact AVle.tup (AVles.cons leaf (AVles.refl _))
  have n1 : ¬ fateOf s = 1 := fun e => by rw [e] at h1; cases h1
  refine And.intro (fun h3 => ?_) (fun h3 => ?_)
  · refine And.intro (Nat.le_of_eq (Nat.zero_add _)) ?_
    refine And.intro rfl ?_
    unfold put
    rw [if_neg (fun h => h hc0), if_neg (fun h => h hN), if_neg hbb, if_neg n4, if_pos (.inr (eq_of_beq h3))]
    exact AVle.tup (AVles.cons leaf (AVles.refl _))
  have n3 : ¬ fateOf s = 3 := fun e => by rw [e] at h3; cases h3
  refine And.intro (fun h2 => ?A) (fun h2 => ?B)
  case' A =>
    have f2 : fateOf s = 2 := eq_of_beq h2
    refine XCall.lenv (flip28 data hd) rfl ?_
    refine And.intro rfl (And.intro (AVles.refl _) ?_)
  case' B =>
    have f2 : ¬ fateOf s = 2 := fun e => by rw [e] at h2; cases h2
  all_goals
    dsimp only [St.put, rn, rns, rid, rnH, rnB, dead, AV.cells, setAt, enumEnv, List.length_nil, List.length_cons, List.getElem?_nil, List.getElem?_cons_zero, List.getElem?_cons_succ, Nat.reduceAdd, Nat.reduceSub, Nat.add_zero]
    refine XCall.lenv (find27' ⟨s.objs, s.fates.tail⟩ name hS hl.1) rfl ?_
    refine And.intro (Nat.le_of_eq (Nat.zero_add _)) ?_
    refine And.intro rfl (And.intro (AVles.cons leaf (AVles.refl _)) ?_)
    dsimp only [St.put, rn, rns, rid, rnH, rnB, dead, AV.cells, setAt, enumEnv, List.length_nil, List.length_cons, List.getElem?_nil, List.getElem?_cons_zero, List.getElem?_cons_succ, Nat.reduceAdd, Nat.reduceSub, Nat.add_zero]
    refine And.intro (fun ht => ?_) (fun ht => ?_)
    · have hth : there s.objs name := of_decide_eq_true ht
      refine Exists.intro (pos s.objs name) ?_
      refine And.intro rfl ?_
      refine And.intro hth.1 ?_
      refine And.intro (show 0 + pos s.objs name < s.objs.length by have := hth.1; omega) ?_
      refine Exists.intro (pos s.objs name) ?_
      refine And.intro rfl ?_
      refine And.intro hth.1 ?_
      refine And.intro (show 0 + pos s.objs name < s.objs.length by have := hth.1; omega) ?_
      dsimp only [St.put, rn, rns, rid, rnH, rnB, dead, AV.cells, setAt, enumEnv, List.length_nil, List.length_cons, List.getElem?_nil, List.getElem?_cons_zero, List.getElem?_cons_succ, Nat.reduceAdd, Nat.reduceSub, Nat.add_zero]
      refine And.intro (Nat.le_of_eq (Nat.zero_add _)) ?_
      refine And.intro rfl ?_
      unfold put
      rw [if_neg (fun h => h hc0), if_neg (fun h => h hN), if_neg hbb, if_neg n4, if_neg (fun h => h.elim n1 n3)]
      first | rw [if_pos f2] | rw [if_neg f2]
      unfold upd
      rw [if_pos hth]
      exact AVle.tup (AVles.cons (AVle.agg (AVles.cons (AVle.fs' (by simp) fun a j ha hj => Eq.trans (by simp only [Nat.zero_add]) (set_cells hth.1 ⟨name, _, (s.objs.getD (pos s.objs name) ob0).data, true⟩ a j ha hj)) (AVles.refl _))) (AVles.refl _))
    · have hth : ¬ there s.objs name := of_decide_eq_false ht
      refine XCall.frame2 5 11 (insert29 s.objs (pos s.objs name) ⟨name, _, ⟨#[]⟩, false⟩ rfl (pos_le _ _) hl.1) rfl rfl (by decide) (show 5 < 12 by decide) (show 11 < 12 by decide) (by decide) rfl (BlkLe.refl _ rfl) rfl rfl (BlkLe.refl _ rfl) rfl ?_
      dsimp only [St.put, rn, rns, rid, rnH, rnB, dead, AV.cells, setAt, enumEnv, List.length_nil, List.length_cons, List.getElem?_nil, List.getElem?_cons_zero, List.getElem?_cons_succ, Nat.reduceAdd, Nat.reduceSub, Nat.add_zero]
      refine And.intro (Nat.le_of_eq (Nat.zero_add _)) ?_
      refine And.intro rfl ?_
      unfold put
      rw [if_neg (fun h => h hc0), if_neg (fun h => h hN), if_neg hbb, if_neg n4, if_neg (fun h => h.elim n1 n3)]
      first | rw [if_pos f2] | rw [if_neg f2]
      unfold upd
      rw [if_neg hth]
      exact AVle.tup (AVles.cons (AVle.agg (AVles.cons (AVle.fs' (ins_len (pos_le _ _) _).symm fun a j ha hj => by (rw [Nat.zero_add]) <;> rfl) (AVles.refl _))) (AVles.refl _))
end Go.Proofs.T

namespace Go.Proofs.T
open Go Go.Hb

def drop (s : Sh) (name : ByteArray) : Sh × Int :=
  if check s.objs ≠ 0 then (s, check s.objs)
  else if ¬ Named name then (s, 7)
  else if fateOf s = 4 then (⟨s.objs, s.fates.tail⟩, 17)
  else if fateOf s = 1 ∨ fateOf s = 3 then (⟨s.objs, s.fates.tail⟩, 0)
  else if ¬ there s.objs name then (⟨s.objs, s.fates.tail⟩, 9)
  else (⟨del s.objs (pos s.objs name), s.fates.tail⟩, 0)

theorem drop16 (s : Sh) (name : ByteArray) (hl : Small s) : Pure Try.prog 16 [sAV s, .s name] (fun r => r = .tup [sAV (drop s name).1, .i .i64 (drop s name).2]) := by
  refine Pure.weak (Post := fun r => AVle r (.tup [sAV (drop s name).1, .i .i64 (drop s name).2])) (Pure.of (XCall.body is16 rfl ?_)) fun r h => ⟨_, rfl, h⟩
  refine XCall.lenv (check17 s hl.1) rfl ?_
  refine And.intro rfl (And.intro (AVles.refl _) ?_)
  dsimp only [St.put, rn, rns, rid, rnH, rnB, dead, AV.cells, setAt, enumEnv, List.length_nil, List.length_cons, List.getElem?_nil, List.getElem?_cons_zero, List.getElem?_cons_succ, Nat.reduceAdd, Nat.reduceSub, Nat.add_zero]
  refine And.intro (fun hc => ?_) (fun hc => ?_)
  · have hc0 : check s.objs ≠ 0 := fun e => by rw [e] at hc; cases hc
    refine XCall.givv (same24 s hl) ?_
    refine And.intro rfl (And.intro (AVles.refl _) ?_)
    refine And.intro rfl ?_
    unfold drop
    rw [if_pos hc0]
    exact AVle.refl _
  have hc0 : check s.objs = 0 := by
    cases e : (check s.objs != 0) with
    | true => rw [e] at hc; cases hc
    | false => simpa using e
  refine XCall.lenv (named_spec name) rfl ?_
  refine And.intro rfl (And.intro (AVles.refl _) ?_)
  dsimp only [St.put, rn, rns, rid, rnH, rnB, dead, AV.cells, setAt, enumEnv, List.length_nil, List.length_cons, List.getElem?_nil, List.getElem?_cons_zero, List.getElem?_cons_succ, Nat.reduceAdd, Nat.reduceSub, Nat.add_zero]
  refine And.intro (fun hn => ?_) (fun hn => ?_)
  · have hnn : ¬ Named name := fun hN => by
      rw [decide_eq_true (p := 1 ≤ name.size ∧ name.size ≤ 100) hN] at hn
      cases hn
    refine XCall.givv (same24 s hl) ?_
    refine And.intro rfl (And.intro (AVles.refl _) ?_)
    refine And.intro rfl ?_
    unfold drop
    rw [if_neg (fun h => h hc0), if_pos hnn]
    exact AVle.refl _
  have hN : Named name := by
    cases h1 : decide (1 ≤ name.size ∧ name.size ≤ 100) with
    | true => exact of_decide_eq_true h1
    | false => rw [h1] at hn; cases hn
  dsimp only [St.put, rn, rns, rid, rnH, rnB, dead, AV.cells, setAt, enumEnv, List.length_nil, List.length_cons, List.getElem?_nil, List.getElem?_cons_zero, List.getElem?_cons_succ, Nat.reduceAdd, Nat.reduceSub, Nat.add_zero]
  refine XCall.frame0 (next26 s hl) rfl rfl ?_
  dsimp only [St.put, rn, rns, rid, rnH, rnB, dead, AV.cells, setAt, enumEnv, List.length_nil, List.length_cons, List.getElem?_nil, List.getElem?_cons_zero, List.getElem?_cons_succ, Nat.reduceAdd, Nat.reduceSub, Nat.add_zero]
  have hS : Sorted s.objs := sorted_of (check0.1 hc0)
  have leaf : AVle (.agg [.fs s.objs.length 4 fun i j => cellO s.objs (0 + i) j, fAV s.fates.tail]) (sAV ⟨s.objs, s.fates.tail⟩) := AVle.agg (AVles.cons AVle.fs0 (AVles.refl _))
  refine XCall.lenv (find27' ⟨s.objs, s.fates.tail⟩ name hS hl.1) rfl ?_
  refine And.intro (Nat.le_of_eq (Nat.zero_add _)) ?_
  refine And.intro rfl (And.intro (AVles.cons leaf (AVles.refl _)) ?_)
  dsimp only [St.put, rn, rns, rid, rnH, rnB, dead, AV.cells, setAt, enumEnv, List.length_nil, List.length_cons, List.getElem?_nil, List.getElem?_cons_zero, List.getElem?_cons_succ, Nat.reduceAdd, Nat.reduceSub, Nat.add_zero]
  refine And.intro (fun h4 => ?_) (fun h4 => ?_)
  · refine And.intro (Nat.le_of_eq (Nat.zero_add _)) ?_
    refine And.intro rfl ?_
    unfold drop
    rw [if_neg (fun h => h hc0), if_neg (fun h => h hN), if_pos (eq_of_beq h4)]
    exact AVle.tup (AVles.cons leaf (AVles.refl _))
  have n4 : ¬ fateOf s = 4 := fun e => by rw [e] at h4; cases h4
  refine And.intro (fun h1 => ?_) (fun h1 => ?_)
  · refine And.intro (Nat.le_of_eq (Nat.zero_add _)) ?_
    refine And.intro rfl ?_
    unfold drop
    rw [if_neg (fun h => h hc0), if_neg (fun h => h hN), if_neg n4, if_pos (.inl (eq_of_beq h1))]
    exact AVle.tup (AVles.cons leaf (AVles.refl _))
  have n1 : ¬ fateOf s = 1 := fun e => by rw [e] at h1; cases h1
  refine And.intro (fun h3 => ?_) (fun h3 => ?_)
  · refine And.intro (Nat.le_of_eq (Nat.zero_add _)) ?_
    refine And.intro rfl ?_
    unfold drop
    rw [if_neg (fun h => h hc0), if_neg (fun h => h hN), if_neg n4, if_pos (.inr (eq_of_beq h3))]
    exact AVle.tup (AVles.cons leaf (AVles.refl _))
  have n3 : ¬ fateOf s = 3 := fun e => by rw [e] at h3; cases h3
  refine And.intro (fun ht => ?_) (fun ht => ?_)
  · have hth : ¬ there s.objs name := fun h => by rw [decide_eq_true h] at ht; cases ht
    refine And.intro (Nat.le_of_eq (Nat.zero_add _)) ?_
    refine And.intro rfl ?_
    unfold drop
    rw [if_neg (fun h => h hc0), if_neg (fun h => h hN), if_neg n4, if_neg (fun h => h.elim n1 n3), if_pos hth]
    exact AVle.tup (AVles.cons leaf (AVles.refl _))
  have hth : there s.objs name := by
    cases e : decide (there s.objs name) with
    | true => exact of_decide_eq_true e
    | false => rw [e] at ht; cases ht
  have hlt := hth.1
  have hlen := hl.1
  refine XCall.wargs (args' := [.sl 5 4 0 s.objs.length, .i .i64 (pos s.objs name : Int), .i .i64 ((pos s.objs name + 1 : Nat) : Int)]) (AVles.cons (AVle.refl _) (AVles.cons (AVle.refl _) (AVles.cons (AVle.of_eq (congrArg (AV.i .i64) ?_)) AVles.nil))) ?_
  · rw [wrap_int (by omega) (by omega)]; omega
  refine XCall.frame1 5 (delete31 s.objs (pos s.objs name) hlt hlen) rfl rfl (show 5 < 10 by decide) (by decide) rfl (BlkLe.refl _ rfl) rfl ?_
  dsimp only [St.put, rn, rns, rid, rnH, rnB, dead, AV.cells, setAt, enumEnv, List.length_nil, List.length_cons, List.getElem?_nil, List.getElem?_cons_zero, List.getElem?_cons_succ, Nat.reduceAdd, Nat.reduceSub, Nat.add_zero]
  refine And.intro (Nat.le_of_eq (Nat.zero_add _)) ?_
  refine And.intro rfl ?_
  unfold drop
  rw [if_neg (fun h => h hc0), if_neg (fun h => h hN), if_neg n4, if_neg (fun h => h.elim n1 n3), if_neg (fun h => h hth)]
  exact AVle.tup (AVles.cons (AVle.agg (AVles.cons (AVle.fs' (del_len hlt).symm fun a j ha hj => by (rw [Nat.zero_add]) <;> rfl) (AVles.refl _))) (AVles.refl _))
end Go.Proofs.T

namespace Go.Proofs.T
open Go Go.Hb

def get (s : Sh) (name : ByteArray) : Sh × ByteArray × Int :=
  if check s.objs ≠ 0 then (s, ⟨#[]⟩, check s.objs)
  else if ¬ Named name then (s, ⟨#[]⟩, 7)
  else if fateOf s = 4 then (⟨s.objs, s.fates.tail⟩, ⟨#[]⟩, 17)
  else if fateOf s = 1 ∨ ¬ there s.objs name ∨ (fateOf s = 3 ∧ (s.objs.getD (pos s.objs name) ob0).had = false) then (⟨s.objs, s.fates.tail⟩, ⟨#[]⟩, 9)
  else if fateOf s = 3 then (⟨s.objs, s.fates.tail⟩, (s.objs.getD (pos s.objs name) ob0).was, 0)
  else if fateOf s = 2 then (⟨s.objs, s.fates.tail⟩, flip (s.objs.getD (pos s.objs name) ob0).data, 0)
  else (⟨s.objs, s.fates.tail⟩, (s.objs.getD (pos s.objs name) ob0).data, 0)

def gAV (r : Sh × ByteArray × Int) : AV := .tup [sAV r.1, .s r.2.1, .i .i64 r.2.2]

theorem get12 (s : Sh) (name : ByteArray) (hl : Small s) : Pure Try.prog 12 [sAV s, .s name] (fun r => r = gAV (get s name)) := by
  refine Pure.weak (Post := fun r => AVle r (gAV (get s name))) (Pure.of (XCall.body is12 rfl ?_)) fun r h => ⟨_, rfl, h⟩
  refine XCall.lenv (check17 s hl.1) rfl ?_
  refine And.intro rfl (And.intro (AVles.refl _) ?_)
  dsimp only [St.put, rn, rns, rid, rnH, rnB, dead, AV.cells, setAt, enumEnv, List.length_nil, List.length_cons, List.getElem?_nil, List.getElem?_cons_zero, List.getElem?_cons_succ, Nat.reduceAdd, Nat.reduceSub, Nat.add_zero]
  refine And.intro (fun hc => ?_) (fun hc => ?_)
  · have hc0 : check s.objs ≠ 0 := fun e => by rw [e] at hc; cases hc
    refine XCall.givv (same24 s hl) ?_
    refine And.intro rfl (And.intro (AVles.refl _) ?_)
    refine And.intro rfl ?_
    unfold get
    rw [if_pos hc0]
    exact AVle.refl _
  have hc0 : check s.objs = 0 := by
    cases e : (check s.objs != 0) with
    | true => rw [e] at hc; cases hc
    | false => simpa using e
  refine XCall.lenv (named_spec name) rfl ?_
  refine And.intro rfl (And.intro (AVles.refl _) ?_)
  dsimp only [St.put, rn, rns, rid, rnH, rnB, dead, AV.cells, setAt, enumEnv, List.length_nil, List.length_cons, List.getElem?_nil, List.getElem?_cons_zero, List.getElem?_cons_succ, Nat.reduceAdd, Nat.reduceSub, Nat.add_zero]
  refine And.intro (fun hn => ?_) (fun hn => ?_)
  · have hnn : ¬ Named name := fun hN => by
      rw [decide_eq_true (p := 1 ≤ name.size ∧ name.size ≤ 100) hN] at hn
      cases hn
    refine XCall.givv (same24 s hl) ?_
    refine And.intro rfl (And.intro (AVles.refl _) ?_)
    refine And.intro rfl ?_
    unfold get
    rw [if_neg (fun h => h hc0), if_pos hnn]
    exact AVle.refl _
  have hN : Named name := by
    cases h1 : decide (1 ≤ name.size ∧ name.size ≤ 100) with
    | true => exact of_decide_eq_true h1
    | false => rw [h1] at hn; cases hn
  dsimp only [St.put, rn, rns, rid, rnH, rnB, dead, AV.cells, setAt, enumEnv, List.length_nil, List.length_cons, List.getElem?_nil, List.getElem?_cons_zero, List.getElem?_cons_succ, Nat.reduceAdd, Nat.reduceSub, Nat.add_zero]
  refine XCall.frame0 (next26 s hl) rfl rfl ?_
  dsimp only [St.put, rn, rns, rid, rnH, rnB, dead, AV.cells, setAt, enumEnv, List.length_nil, List.length_cons, List.getElem?_nil, List.getElem?_cons_zero, List.getElem?_cons_succ, Nat.reduceAdd, Nat.reduceSub, Nat.add_zero]
  have hS : Sorted s.objs := sorted_of (check0.1 hc0)
  have leaf : AVle (.agg [.fs s.objs.length 4 fun i j => cellO s.objs (0 + i) j, fAV s.fates.tail]) (sAV ⟨s.objs, s.fates.tail⟩) := AVle.agg (AVles.cons AVle.fs0 (AVles.refl _))
  refine XCall.lenv (find27' ⟨s.objs, s.fates.tail⟩ name hS hl.1) rfl ?_
  refine And.intro (Nat.le_of_eq (Nat.zero_add _)) ?_
  refine And.intro rfl (And.intro (AVles.cons leaf (AVles.refl _)) ?_)
  dsimp only [St.put, rn, rns, rid, rnH, rnB, dead, AV.cells, setAt, enumEnv, List.length_nil, List.length_cons, List.getElem?_nil, List.getElem?_cons_zero, List.getElem?_cons_succ, Nat.reduceAdd, Nat.reduceSub, Nat.add_zero]
  refine And.intro (fun h4 => ?_) (fun h4 => ?_)
  · refine And.intro (Nat.le_of_eq (Nat.zero_add _)) ?_
    refine And.intro rfl ?_
    unfold get
    rw [if_neg (fun h => h hc0), if_neg (fun h => h hN), if_pos (eq_of_beq h4)]
    exact AVle.tup (AVles.cons leaf (AVles.refl _))
  have n4 : ¬ fateOf s = 4 := fun e => by rw [e] at h4; cases h4
  dsimp only [St.put, rn, rns, rid, rnH, rnB, dead, AV.cells, setAt, enumEnv, List.length_nil, List.length_cons, List.getElem?_nil, List.getElem?_cons_zero, List.getElem?_cons_succ, Nat.reduceAdd, Nat.reduceSub, Nat.add_zero]
  have last : ∀ (x : ByteArray) (e : Int), AVle (.tup [.agg [.fs s.objs.length 4 fun i j => cellO s.objs (0 + i) j, fAV s.fates.tail], .s x, .i .i64 e]) (gAV (⟨s.objs, s.fates.tail⟩, x, e)) := fun x e => AVle.tup (AVles.cons leaf (AVles.refl _))
  show aops _ _ _ _
  show brk _ _ _
  refine And.intro (fun h1 => ?_) (fun h1 => ?_)
  · refine And.intro (Nat.le_of_eq (Nat.zero_add _)) ?_
    refine And.intro rfl ?_
    unfold get
    rw [if_neg (fun h => h hc0), if_neg (fun h => h hN), if_neg n4, if_pos (.inl (eq_of_beq h1))]
    exact last _ _
  have n1 : ¬ fateOf s = 1 := fun e => by rw [e] at h1; cases h1
  dsimp only [St.put, rn, rns, rid, rnH, rnB, dead, AV.cells, setAt, enumEnv, List.length_nil, List.length_cons, List.getElem?_nil, List.getElem?_cons_zero, List.getElem?_cons_succ, Nat.reduceAdd, Nat.reduceSub, Nat.add_zero]
  show aops _ _ _ _
  show brk _ _ _
  refine And.intro (fun ht => ?_) (fun ht => ?_)
  · have hth : ¬ there s.objs name := fun h => by rw [decide_eq_true h] at ht; cases ht
    refine And.intro (Nat.le_of_eq (Nat.zero_add _)) ?_
    refine And.intro rfl ?_
    unfold get
    rw [if_neg (fun h => h hc0), if_neg (fun h => h hN), if_neg n4, if_pos (.inr (.inl hth))]
    exact last _ _
  have hth : there s.objs name := by
    cases e : decide (there s.objs name) with
    | true => exact of_decide_eq_true e
    | false => rw [e] at ht; cases ht
  have hlt := hth.1
  have hbig := (check0.1 hc0 _ hlt).big
  dsimp only [St.put, rn, rns, rid, rnH, rnB, dead, AV.cells, setAt, enumEnv, List.length_nil, List.length_cons, List.getElem?_nil, List.getElem?_cons_zero, List.getElem?_cons_succ, Nat.reduceAdd, Nat.reduceSub, Nat.add_zero]
  show aops _ _ _ _
  show brk _ _ _
  refine And.intro (fun h3 => ?_) (fun h3 => ?_)
  · have f3 : fateOf s = 3 := eq_of_beq h3
    refine Exists.intro (pos s.objs name) ?_
    refine And.intro rfl ?_
    refine And.intro hlt ?_
    refine And.intro (show 0 + pos s.objs name < s.objs.length by omega) ?_
    dsimp only [St.put, rn, rns, rid, rnH, rnB, dead, AV.cells, setAt, enumEnv, List.length_nil, List.length_cons, List.getElem?_nil, List.getElem?_cons_zero, List.getElem?_cons_succ, Nat.reduceAdd, Nat.reduceSub, Nat.add_zero]
    show brk _ _ _
    refine And.intro (fun hh => ?_) (fun hh => ?_)
    · have hhd : (s.objs.getD (pos s.objs name) ob0).had = false := by
        rw [Nat.zero_add] at hh
        cases e : (s.objs.getD (pos s.objs name) ob0).had with
        | false => rfl
        | true => rw [e] at hh; cases hh
      refine And.intro (Nat.le_of_eq (Nat.zero_add _)) ?_
      refine And.intro rfl ?_
      unfold get
      rw [if_neg (fun h => h hc0), if_neg (fun h => h hN), if_neg n4, if_pos (.inr (.inr ⟨f3, hhd⟩))]
      exact last _ _
    · have hhd : ¬ (s.objs.getD (pos s.objs name) ob0).had = false := fun e => by
        rw [Nat.zero_add, e] at hh
        cases hh
      show aops _ _ _ _
      show brk _ _ _
      refine And.intro (fun _ => ?_) (fun h => by rw [h3] at h; cases h)
      refine Exists.intro (pos s.objs name) ?_
      refine And.intro rfl ?_
      refine And.intro hlt ?_
      refine And.intro (show 0 + pos s.objs name < s.objs.length by omega) ?_
      dsimp only [St.put, rn, rns, rid, rnH, rnB, dead, AV.cells, setAt, enumEnv, List.length_nil, List.length_cons, List.getElem?_nil, List.getElem?_cons_zero, List.getElem?_cons_succ, Nat.reduceAdd, Nat.reduceSub, Nat.add_zero]
      refine And.intro rfl ?_
      refine And.intro rfl ?_
      refine And.intro (Nat.le_of_eq (Nat.zero_add _)) ?_
      refine And.intro rfl ?_
      unfold get
      rw [if_neg (fun h => h hc0), if_neg (fun h => h hN), if_neg n4, if_neg (fun h => h.elim n1 fun h => h.elim (fun h => h hth) fun h => hhd h.2), if_pos f3]
      show AVle (.tup [_, .s (s.objs.getD (0 + pos s.objs name) ob0).was, _]) _
      rw [Nat.zero_add (pos s.objs name)]
      exact last _ _
  · have f3 : ¬ fateOf s = 3 := fun e => by rw [e] at h3; cases h3
    dsimp only [St.put, rn, rns, rid, rnH, rnB, dead, AV.cells, setAt, enumEnv, List.length_nil, List.length_cons, List.getElem?_nil, List.getElem?_cons_zero, List.getElem?_cons_succ, Nat.reduceAdd, Nat.reduceSub, Nat.add_zero]
    show aops _ _ _ _
    show brk _ _ _
    refine And.intro (fun h => by rw [h3] at h; cases h) (fun _ => ?_)
    show aops _ _ _ _
    show brk _ _ _
    refine And.intro (fun h2 => ?_) (fun h2 => ?_)
    · have f2 : fateOf s = 2 := eq_of_beq h2
      refine Exists.intro (pos s.objs name) ?_
      refine And.intro rfl ?_
      refine And.intro hlt ?_
      refine And.intro (show 0 + pos s.objs name < s.objs.length by omega) ?_
      dsimp only [St.put, rn, rns, rid, rnH, rnB, dead, AV.cells, setAt, enumEnv, List.length_nil, List.length_cons, List.getElem?_nil, List.getElem?_cons_zero, List.getElem?_cons_succ, Nat.reduceAdd, Nat.reduceSub, Nat.add_zero]
      refine XCall.lenv (flip28 (s.objs.getD (0 + pos s.objs name) ob0).data (by rw [Nat.zero_add]; omega)) rfl ?_
      refine And.intro rfl (And.intro (AVles.refl _) ?_)
      dsimp only [St.put, rn, rns, rid, rnH, rnB, dead, AV.cells, setAt, enumEnv, List.length_nil, List.length_cons, List.getElem?_nil, List.getElem?_cons_zero, List.getElem?_cons_succ, Nat.reduceAdd, Nat.reduceSub, Nat.add_zero]
      refine And.intro rfl ?_
      refine And.intro (Nat.le_of_eq (Nat.zero_add _)) ?_
      refine And.intro rfl ?_
      unfold get
      rw [if_neg (fun h => h hc0), if_neg (fun h => h hN), if_neg n4, if_neg (fun h => h.elim n1 fun h => h.elim (fun h => h hth) fun h => f3 h.1), if_neg f3, if_pos f2]
      show AVle (.tup [_, .s (flip (s.objs.getD (0 + pos s.objs name) ob0).data), _]) _
      rw [Nat.zero_add (pos s.objs name)]
      exact last _ _
    · have f2 : ¬ fateOf s = 2 := fun e => by rw [e] at h2; cases h2
      refine Exists.intro (pos s.objs name) ?_
      refine And.intro rfl ?_
      refine And.intro hlt ?_
      refine And.intro (show 0 + pos s.objs name < s.objs.length by omega) ?_
      dsimp only [St.put, rn, rns, rid, rnH, rnB, dead, AV.cells, setAt, enumEnv, List.length_nil, List.length_cons, List.getElem?_nil, List.getElem?_cons_zero, List.getElem?_cons_succ, Nat.reduceAdd, Nat.reduceSub, Nat.add_zero]
      refine And.intro rfl ?_
      refine And.intro rfl ?_
      refine And.intro (Nat.le_of_eq (Nat.zero_add _)) ?_
      refine And.intro rfl ?_
      unfold get
      rw [if_neg (fun h => h hc0), if_neg (fun h => h hN), if_neg n4, if_neg (fun h => h.elim n1 fun h => h.elim (fun h => h hth) fun h => f3 h.1), if_neg f3, if_neg f2]
      show AVle (.tup [_, .s (s.objs.getD (0 + pos s.objs name) ob0).data, _]) _
      rw [Nat.zero_add (pos s.objs name)]
      exact last _ _
end Go.Proofs.T

namespace Go.Proofs.T
open Go Go.Hb

/-- Begins it so? -/
def pre (s p : ByteArray) : Bool := decide (p.size ≤ s.size) && ((s.extract 0 p.size).toList == p.toList)
theorem pre43 (s p : ByteArray) : Pure Try.prog 43 [.s s, .s p] (fun r => r = .b (pre s p)) := by
  refine Pure.weak (Post := fun r => AVle r (.b (pre s p))) (Pure.of (XCall.body is43 rfl ?_)) fun r h => ⟨_, rfl, h⟩
  refine brk.mk (fun h => ?_) (fun h => ?_)
  · have hle : p.size ≤ s.size := by have := of_decide_eq_true h; omega
    refine Exists.intro p.size ?_
    refine And.intro rfl ?_
    refine And.intro hle ?_
    refine And.intro rfl ?_
    refine AVle.of_eq (congrArg AV.b ?_)
    unfold pre
    rw [decide_eq_true hle]
    rfl
  · have hle : ¬ p.size ≤ s.size := by have := of_decide_eq_false h; omega
    refine And.intro rfl ?_
    unfold pre
    rw [decide_eq_false hle]
    exact AVle.ff
theorem pre30 (s p : ByteArray) : Pure Try.prog 30 [.s s, .s p] (fun r => r = .b (pre s p)) := by
  refine Pure.of (XCall.body is30 rfl ?_)
  refine XCall.lenv (pre43 s p) rfl ?_
  exact ⟨rfl, AVles.refl _, rfl, rfl⟩

/-- Is its name told? -/
def keep (f : Int) (front : ByteArray) (x : Ob) : Bool := pre x.name front && (f != 3 || x.had)
def names (f : Int) (front : ByteArray) (l : List Ob) : List ByteArray := (l.filter (keep f front)).map (·.name)
def cellN (ns : List ByteArray) (i _j : Nat) : CV := .s (ns.getD i ⟨#[]⟩)
def lAV (ns : List ByteArray) : AV := .fs ns.length 1 (cellN ns)
def namesOf (s : Sh) (front : ByteArray) : Sh × List ByteArray × Int :=
  if check s.objs ≠ 0 then (s, [], check s.objs)
  else if fateOf s = 4 then (⟨s.objs, s.fates.tail⟩, [], 17)
  else if fateOf s = 1 then (⟨s.objs, s.fates.tail⟩, [], 0)
  else (⟨s.objs, s.fates.tail⟩, names (fateOf s) front s.objs, 0)
def nAV (r : Sh × List ByteArray × Int) : AV := .tup [sAV r.1, lAV r.2.1, .i .i64 r.2.2]
theorem take_one {l : List Ob} {i : Nat} (hi : i < l.length) : l.take (i + 1) = l.take i ++ [l.getD i ob0] := by
  rw [List.take_add_one, List.getD_eq_getElem?_getD, List.getElem?_eq_getElem hi]
  rfl
theorem names_one {f : Int} {front : ByteArray} {l : List Ob} {i : Nat} (hi : i < l.length) : names f front (l.take (i + 1)) = names f front (l.take i) ++ (match keep f front (l.getD i ob0) with
    | true => [(l.getD i ob0).name]
    | false => []) := by
  rw [take_one hi]
  unfold names
  rw [List.filter_append, List.map_append]
  congr 1
  cases h : keep f front (l.getD i ob0) with
  | true => rw [List.filter_cons_of_pos h]; rfl
  | false => rw [List.filter_cons_of_neg (by rw [h]; decide)]; rfl
theorem names_len {f : Int} {front : ByteArray} {l : List Ob} (i : Nat) : (names f front (l.take i)).length ≤ i := by
  unfold names
  rw [List.length_map]
  exact Nat.le_trans (List.length_filter_le _ _) (by simp; omega)
theorem appN (ns : List ByteArray) (x : ByteArray) : ∀ a j, a < (ns ++ [x]).length → j < 1 → appCell ns.length (cellN ns) (listCell 1 [.s x]) a j = cellN (ns ++ [x]) a j := by
  intro a j ha hj
  have ha' : a < ns.length + 1 := by simpa using ha
  obtain rfl : j = 0 := by omega
  by_cases h : a < ns.length
  · rw [appCell_old h]
    unfold cellN
    rw [List.getD_eq_getElem?_getD, List.getD_eq_getElem?_getD, List.getElem?_append_left h]
  · obtain rfl : a = ns.length := by omega
    rw [appCell_new (by omega), Nat.sub_self]
    unfold cellN
    rw [List.getD_eq_getElem?_getD, List.getElem?_append_right (Nat.le_refl _), Nat.sub_self]
    rfl

theorem names14 (s : Sh) (front : ByteArray) (hl : Small s) : Pure Try.prog 14 [sAV s, .s front] (fun r => r = nAV (namesOf s front)) := by
  refine Pure.weak (Post := fun r => AVle r (nAV (namesOf s front))) (Pure.of (XCall.body is14 rfl ?_)) fun r h => ⟨_, rfl, h⟩
  refine XCall.lenv (check17 s hl.1) rfl ?_
  refine And.intro rfl (And.intro (AVles.refl _) ?_)
  dsimp only [St.put, rn, rns, rid, rnH, rnB, dead, AV.cells, setAt, enumEnv, List.length_nil, List.length_cons, List.getElem?_nil, List.getElem?_cons_zero, List.getElem?_cons_succ, Nat.reduceAdd, Nat.reduceSub, Nat.add_zero]
  show aops _ _ _ _
  refine brk.mk (fun hc => ?_) (fun hc => ?_)
  · have hc0 : check s.objs ≠ 0 := fun e => by rw [e] at hc; cases hc
    refine XCall.givv (same24 s hl) ?_
    refine And.intro rfl (And.intro (AVles.refl _) ?_)
    refine And.intro rfl ?_
    unfold namesOf
    rw [if_pos hc0]
    exact AVle.tup (AVles.cons (AVle.refl _) (AVles.cons (AVle.nils _ _) (AVles.refl _)))
  have hc0 : check s.objs = 0 := by
    cases e : (check s.objs != 0) with
    | true => rw [e] at hc; cases hc
    | false => simpa using e
  dsimp only [St.put, rn, rns, rid, rnH, rnB, dead, AV.cells, setAt, enumEnv, List.length_nil, List.length_cons, List.getElem?_nil, List.getElem?_cons_zero, List.getElem?_cons_succ, Nat.reduceAdd, Nat.reduceSub, Nat.add_zero]
  refine XCall.frame0 (next26 s hl) rfl rfl ?_
  dsimp only [St.put, rn, rns, rid, rnH, rnB, dead, AV.cells, setAt, enumEnv, List.length_nil, List.length_cons, List.getElem?_nil, List.getElem?_cons_zero, List.getElem?_cons_succ, Nat.reduceAdd, Nat.reduceSub, Nat.add_zero]
  have leaf : AVle (.agg [.fs s.objs.length 4 fun i j => cellO s.objs (0 + i) j, fAV s.fates.tail]) (sAV ⟨s.objs, s.fates.tail⟩) := AVle.agg (AVles.cons AVle.fs0 (AVles.refl _))
  have last0 : ∀ (e : Int), AVle (.tup [.agg [.fs s.objs.length 4 fun i j => cellO s.objs (0 + i) j, fAV s.fates.tail], .nils, .i .i64 e]) (nAV (⟨s.objs, s.fates.tail⟩, [], e)) := fun e => AVle.tup (AVles.cons leaf (AVles.cons (AVle.nils _ _) (AVles.refl _)))
  show aops _ _ _ _
  refine brk.mk (fun h4 => ?_) (fun h4 => ?_)
  · refine And.intro (Nat.le_of_eq (Nat.zero_add _)) ?_
    refine And.intro rfl ?_
    unfold namesOf
    rw [if_neg (fun h => h hc0), if_pos (eq_of_beq h4)]
    exact last0 _
  have n4 : ¬ fateOf s = 4 := fun e => by rw [e] at h4; cases h4
  dsimp only [St.put, rn, rns, rid, rnH, rnB, dead, AV.cells, setAt, enumEnv, List.length_nil, List.length_cons, List.getElem?_nil, List.getElem?_cons_zero, List.getElem?_cons_succ, Nat.reduceAdd, Nat.reduceSub, Nat.add_zero]
  show aops _ _ _ _
  refine brk.mk (fun h1 => ?_) (fun h1 => ?_)
  · refine And.intro (Nat.le_of_eq (Nat.zero_add _)) ?_
    refine And.intro rfl ?_
    unfold namesOf
    rw [if_neg (fun h => h hc0), if_neg n4, if_pos (eq_of_beq h1)]
    exact last0 _
  have n1 : ¬ fateOf s = 1 := fun e => by rw [e] at h1; cases h1
  dsimp only [St.put, rn, rns, rid, rnH, rnB, dead, AV.cells, setAt, enumEnv, List.length_nil, List.length_cons, List.getElem?_nil, List.getElem?_cons_zero, List.getElem?_cons_succ, Nat.reduceAdd, Nat.reduceSub, Nat.add_zero]
  show awp _ (.loop _) _ _
  dsimp only [St.put, rn, rns, rid, rnH, rnB, dead, AV.cells, setAt, enumEnv, List.length_nil, List.length_cons, List.getElem?_nil, List.getElem?_cons_zero, List.getElem?_cons_succ, Nat.reduceAdd, Nat.reduceSub, Nat.add_zero]
  refine loop.mk (fun σ => ∃ (i : Nat) (ns : List ByteArray), i ≤ s.objs.length ∧ ns = names (fateOf s) front (s.objs.take i) ∧
    σ = ⟨[(1, .s front), (4, .p 1 0), (8, .p 9 0), (9, .i .i64 (fateOf s)), (10, .sl 10 1 0 ns.length), (33, .sl 5 4 0 s.objs.length), (34, .i .i64 (s.objs.length : Int)), (35, .i .i64 (i : Int))],
      [(1, .lit [.nils, .nils]), (5, .rows s.objs.length 4 (cellO s.objs)), (9, .lit [.sl 5 4 0 s.objs.length, fAV s.fates.tail]), (10, .rows ns.length 1 (cellN ns))], 11⟩) (fun σ => (s.objs.length - num 35 σ).toNat) ?_ ?_
  · refine ⟨_, Le.trans (Le.nils (t := 10) (size := 1) (cell := cellN []) rfl) (Le.mk ?_ ?_ rfl rfl), 0, [], Nat.zero_le _, rfl, rfl⟩
    · exact ⟨rfl, rfl, rfl, rfl, rfl, rfl, rfl, rfl, trivial⟩
    · exact ⟨BlkLe.refl _ rfl, BlkLe.refl _ rfl, rfl, BlkLe.refl _ rfl, trivial⟩
  rintro σ' ⟨i, ns, hi, hns, rfl⟩
  have hbig := hl.1
  show aops _ _ _ _
  refine brk.mk (fun hc => ?_) (fun hc => ?_)
  · have hlt : i < s.objs.length := by have := of_decide_eq_true hc; omega
    have hwrap : IntKind.i64.wrap ((i : Int) + 1) = ((i + 1 : Nat) : Int) := by rw [wrap_int (by omega) (by omega)]; omega
    have hnl : ns.length ≤ i := by rw [hns]; exact names_len i
    have cont : keep (fateOf s) front (s.objs.getD (0 + i) ob0) = true → ns ++ [(s.objs.getD (0 + i) ob0).name] = names (fateOf s) front (s.objs.take (i + 1)) := fun hk => by
      rw [Nat.zero_add] at hk ⊢
      rw [names_one hlt, ← hns, hk]
    have cont0 : keep (fateOf s) front (s.objs.getD (0 + i) ob0) = false → ns = names (fateOf s) front (s.objs.take (i + 1)) := fun hk => by
      rw [Nat.zero_add] at hk
      rw [names_one hlt, ← hns, hk, List.append_nil]
    refine Exists.intro i ?_
    refine And.intro rfl ?_
    refine And.intro hlt ?_
    refine And.intro (show 0 + i < s.objs.length by omega) ?_
    dsimp only [St.put, rn, rns, rid, rnH, rnB, dead, AV.cells, setAt, enumEnv, List.length_nil, List.length_cons, List.getElem?_nil, List.getElem?_cons_zero, List.getElem?_cons_succ, Nat.reduceAdd, Nat.reduceSub, Nat.add_zero]
    refine XCall.lenv (pre30 (s.objs.getD (0 + i) ob0).name front) rfl ?_
    refine And.intro rfl (And.intro (AVles.refl _) ?_)
    dsimp only [St.put, rn, rns, rid, rnH, rnB, dead, AV.cells, setAt, enumEnv, List.length_nil, List.length_cons, List.getElem?_nil, List.getElem?_cons_zero, List.getElem?_cons_succ, Nat.reduceAdd, Nat.reduceSub, Nat.add_zero]
    show aops _ _ _ _
    refine brk.mk (fun hp => ?_) (fun hp => ?_)
    · refine brk.mk (fun h3 => ?_) (fun h3 => ?_)
      · dsimp only [St.put, rn, rns, rid, rnH, rnB, dead, AV.cells, setAt, enumEnv, List.length_nil, List.length_cons, List.getElem?_nil, List.getElem?_cons_zero, List.getElem?_cons_succ, Nat.reduceAdd, Nat.reduceSub, Nat.add_zero]
        refine And.intro (Nat.le_refl _) ?_
        refine And.intro (show (ns.length + 1) * 16 ≤ 140737488355328 by omega) ?_
        dsimp only [St.put, rn, rns, rid, rnH, rnB, dead, AV.cells, setAt, enumEnv, List.length_nil, List.length_cons, List.getElem?_nil, List.getElem?_cons_zero, List.getElem?_cons_succ, Nat.reduceAdd, Nat.reduceSub, Nat.add_zero]
        refine ⟨_, Le.trans (Le.swap 10 13 (by decide) (by decide) (by decide : 10 < 14) (by decide : 13 < 14)) (Le.mk ?_ ?_ rfl rfl), ⟨i + 1, ns ++ [(s.objs.getD (0 + i) ob0).name], hlt, cont ?_, rfl⟩, ?_⟩
        · exact ⟨rfl, rfl, rfl, rfl, congrArg (AV.sl 10 1 0) (by simp), rfl, rfl, congrArg (AV.i .i64) hwrap, trivial⟩
        · exact ⟨rfl, BlkLe.refl _ rfl, rfl, BlkLe.rows (by simp) (appN ns _), trivial⟩
        · unfold keep; rw [hp, h3]; rfl
        · show (_ - ((i + 1 : Nat) : Int)).toNat < (_ - (i : Int)).toNat
          omega
      · refine brk.mk (fun hh => ?_) (fun hh => ?_)
        · dsimp only [St.put, rn, rns, rid, rnH, rnB, dead, AV.cells, setAt, enumEnv, List.length_nil, List.length_cons, List.getElem?_nil, List.getElem?_cons_zero, List.getElem?_cons_succ, Nat.reduceAdd, Nat.reduceSub, Nat.add_zero]
          refine And.intro (Nat.le_refl _) ?_
          refine And.intro (show (ns.length + 1) * 16 ≤ 140737488355328 by omega) ?_
          dsimp only [St.put, rn, rns, rid, rnH, rnB, dead, AV.cells, setAt, enumEnv, List.length_nil, List.length_cons, List.getElem?_nil, List.getElem?_cons_zero, List.getElem?_cons_succ, Nat.reduceAdd, Nat.reduceSub, Nat.add_zero]
          refine ⟨_, Le.trans (Le.swap 10 13 (by decide) (by decide) (by decide : 10 < 14) (by decide : 13 < 14)) (Le.mk ?_ ?_ rfl rfl), ⟨i + 1, ns ++ [(s.objs.getD (0 + i) ob0).name], hlt, cont ?_, rfl⟩, ?_⟩
          · exact ⟨rfl, rfl, rfl, rfl, congrArg (AV.sl 10 1 0) (by simp), rfl, rfl, congrArg (AV.i .i64) hwrap, trivial⟩
          · exact ⟨rfl, BlkLe.refl _ rfl, rfl, BlkLe.rows (by simp) (appN ns _), trivial⟩
          · unfold keep; rw [hp, hh, Bool.or_true]; rfl
          · show (_ - ((i + 1 : Nat) : Int)).toNat < (_ - (i : Int)).toNat
            omega
        · dsimp only [St.put, rn, rns, rid, rnH, rnB, dead, AV.cells, setAt, enumEnv, List.length_nil, List.length_cons, List.getElem?_nil, List.getElem?_cons_zero, List.getElem?_cons_succ, Nat.reduceAdd, Nat.reduceSub, Nat.add_zero]
          refine ⟨_, Le.mk ?_ ?_ rfl rfl, ⟨i + 1, ns, hlt, cont0 ?_, rfl⟩, ?_⟩
          · exact ⟨rfl, rfl, rfl, rfl, rfl, rfl, rfl, congrArg (AV.i .i64) hwrap, trivial⟩
          · exact ⟨rfl, BlkLe.refl _ rfl, rfl, BlkLe.refl _ rfl, trivial⟩
          · unfold keep; rw [hp, h3, hh]; rfl
          · show (_ - ((i + 1 : Nat) : Int)).toNat < (_ - (i : Int)).toNat
            omega
    · dsimp only [St.put, rn, rns, rid, rnH, rnB, dead, AV.cells, setAt, enumEnv, List.length_nil, List.length_cons, List.getElem?_nil, List.getElem?_cons_zero, List.getElem?_cons_succ, Nat.reduceAdd, Nat.reduceSub, Nat.add_zero]
      refine ⟨_, Le.mk ?_ ?_ rfl rfl, ⟨i + 1, ns, hlt, cont0 ?_, rfl⟩, ?_⟩
      · exact ⟨rfl, rfl, rfl, rfl, rfl, rfl, rfl, congrArg (AV.i .i64) hwrap, trivial⟩
      · exact ⟨rfl, BlkLe.refl _ rfl, rfl, BlkLe.refl _ rfl, trivial⟩
      · unfold keep; rw [hp]; rfl
      · show (_ - ((i + 1 : Nat) : Int)).toNat < (_ - (i : Int)).toNat
        omega
  · have hin : i = s.objs.length := by have := of_decide_eq_false hc; omega
    subst hin
    refine And.intro (Nat.le_of_eq (Nat.zero_add _)) ?_
    refine And.intro (Nat.le_of_eq (Nat.zero_add _)) ?_
    refine And.intro rfl ?_
    unfold namesOf
    rw [if_neg (fun h => h hc0), if_neg n4, if_neg n1]
    rw [List.take_length] at hns
    rw [← hns]
    exact AVle.tup (AVles.cons leaf (AVles.cons AVle.fs0 (AVles.refl _)))
end Go.Proofs.T

namespace Go.Proofs.T
open Go Go.Hb

def fateR (s : Sh) : Int := if fateOf s < 0 ∨ 4 < fateOf s then 0 else fateOf s
theorem fate32 (s : Sh) : Pure Try.prog 32 [sAV s] (fun r => r = .tup [sAV ⟨s.objs, s.fates.tail⟩, .i .i64 (fateR s)]) := by
  refine Pure.weak (Post := fun r => AVle r (.tup [sAV ⟨s.objs, s.fates.tail⟩, .i .i64 (fateR s)])) (Pure.of (XCall.body is32 rfl ?_)) fun r h => ⟨_, rfl, h⟩
  show aops _ _ _ _
  refine brk.mk (fun hc => ?_) (fun hc => ?_)
  · have h0 : s.fates = [] := by
      have h1 : (s.fates.length : Int) = 0 := eq_of_beq hc
      exact List.eq_nil_of_length_eq_zero (by omega)
    refine And.intro rfl ?_
    have e : fateR s = 0 := by unfold fateR fateOf; rw [h0]; rfl
    rw [e]
    refine AVle.of_eq ?_
    rw [h0]
    rfl
  · have h0 : 0 < s.fates.length := by
      have h1 : ¬ (s.fates.length : Int) = 0 := fun e => by rw [e] at hc; cases hc
      omega
    have hf : s.fates.getD 0 0 = fateOf s := by
      unfold fateOf
      cases hf : s.fates with
      | nil => rw [hf] at h0; cases h0
      | cons f r => rfl
    have hlen : s.fates.tail.length = s.fates.length - 1 := by simp
    have hle : AVle (.fs (s.fates.length - 1) 1 fun i j => cellF s.fates (1 + i) j) (fAV s.fates.tail) := by
      refine AVle.fs' hlen.symm fun i j hi hj => ?_
      cases hf : s.fates with
      | nil => rw [hf] at h0; cases h0
      | cons f r => simp [cellF, Nat.add_comm 1 i]
    have leaf : ∀ e, AVle (.tup [.agg [oAV s.objs, .fs (s.fates.length - 1) 1 fun i j => cellF s.fates (1 + i) j], .i .i64 e]) (.tup [sAV ⟨s.objs, s.fates.tail⟩, .i .i64 e]) := fun e => AVle.tup (AVles.cons (AVle.agg (AVles.cons (AVle.refl _) (AVles.cons hle AVles.nil))) (AVles.refl _))
    refine Exists.intro 0 ?_
    refine And.intro rfl ?_
    refine And.intro h0 ?_
    dsimp only [St.put, rn, rns, rid, rnH, rnB, dead, AV.cells, setAt, enumEnv, List.length_nil, List.length_cons, List.getElem?_nil, List.getElem?_cons_zero, List.getElem?_cons_succ, Nat.reduceAdd, Nat.reduceSub, Nat.add_zero]
    refine Exists.intro 1 ?_
    refine And.intro rfl ?_
    refine And.intro h0 ?_
    dsimp only [St.put, rn, rns, rid, rnH, rnB, dead, AV.cells, setAt, enumEnv, List.length_nil, List.length_cons, List.getElem?_nil, List.getElem?_cons_zero, List.getElem?_cons_succ, Nat.reduceAdd, Nat.reduceSub, Nat.add_zero]
    show aops _ _ _ _
    refine brk.mk (fun hn => ?_) (fun hn => ?_)
    · have hn' : fateOf s < 0 := by rw [← hf]; exact of_decide_eq_true hn
      refine And.intro rfl ?_
      unfold fateR
      rw [if_pos (.inl hn')]
      exact leaf 0
    · have hn' : ¬ fateOf s < 0 := by rw [← hf]; exact of_decide_eq_false hn
      refine brk.mk (fun hg => ?_) (fun hg => ?_)
      · have hg' : 4 < fateOf s := by rw [← hf]; exact of_decide_eq_true hg
        refine And.intro rfl ?_
        unfold fateR
        rw [if_pos (.inr hg')]
        exact leaf 0
      · have hg' : ¬ 4 < fateOf s := by rw [← hf]; exact of_decide_eq_false hg
        refine And.intro rfl ?_
        unfold fateR
        rw [if_neg (fun h => h.elim hn' hg'), ← hf]
        exact leaf _

def xAV (x : Ob) : AV := .agg [.s x.name, .s x.data, .s x.was, .b x.had]
/-- The first object of that name. -/
def findR (l : List Ob) (name : ByteArray) : Option Ob := l.find? fun x => decide (x.name = name)
def fRes (o : Option Ob) : AV := match o with
  | some x => .tup [xAV x, .b true]
  | none => .tup [xAV ob0, .b false]
theorem findR_none {l : List Ob} {name : ByteArray} (h : ∀ i, i < l.length → ¬ (l.getD i ob0).name = name) : findR l name = none := by
  unfold findR
  rw [List.find?_eq_none]
  intro x hx
  obtain ⟨i, hi, rfl⟩ := List.mem_iff_getElem.1 hx
  have := h i hi
  rw [List.getD_eq_getElem?_getD, List.getElem?_eq_getElem hi] at this
  simpa using this
theorem findR_some {l : List Ob} {name : ByteArray} {i : Nat} (hi : i < l.length) (h : ∀ k, k < i → ¬ (l.getD k ob0).name = name) (he : (l.getD i ob0).name = name) : findR l name = some (l.getD i ob0) := by
  unfold findR
  rw [List.find?_eq_some_iff_getElem]
  refine ⟨by simpa using he, i, hi, ?_, fun j hj => ?_⟩
  · rw [List.getD_eq_getElem?_getD, List.getElem?_eq_getElem hi]; rfl
  · have := h j hj
    rw [List.getD_eq_getElem?_getD, List.getElem?_eq_getElem (by omega)] at this
    simpa using this
theorem find34 (s : Sh) (name : ByteArray) (hl : s.objs.length ≤ 1099511627776) : Pure Try.prog 34 [sAV s, .s name] (fun r => r = fRes (findR s.objs name)) := by
  refine Pure.weak (Post := fun r => AVle r (fRes (findR s.objs name))) (Pure.of (XCall.body is34 rfl ?_)) fun r h => ⟨_, rfl, h⟩
  show awp _ (.loop _) _ _
  dsimp only [St.put, rn, rns, rid, rnH, rnB, dead, AV.cells, setAt, enumEnv, List.length_nil, List.length_cons, List.getElem?_nil, List.getElem?_cons_zero, List.getElem?_cons_succ, Nat.reduceAdd, Nat.reduceSub, Nat.add_zero]
  refine loop.mk (fun σ => ∃ i : Nat, i ≤ s.objs.length ∧ (∀ k, k < i → ¬ (s.objs.getD k ob0).name = name) ∧
    σ = ⟨[(1, .s name), (2, .p 0 0), (4, .p 1 0), (9, .i .i64 (s.objs.length : Int)), (10, .i .i64 (i : Int))],
      [(0, .lit [oAV s.objs, fAV s.fates]), (1, .lit [.s ⟨#[]⟩, .s ⟨#[]⟩, .s ⟨#[]⟩, .ff])], 2⟩) (fun σ => (s.objs.length - num 10 σ).toNat) ?_ ?_
  · refine ⟨_, Le.mk ?_ ?_ rfl rfl, 0, Nat.zero_le _, fun k h => absurd h (Nat.not_lt_zero _), rfl⟩
    · exact ⟨rfl, rfl, rfl, rfl, rfl, trivial⟩
    · exact ⟨rfl, rfl, trivial⟩
  rintro σ' ⟨i, hi, hno, rfl⟩
  show aops _ _ _ _
  refine brk.mk (fun hc => ?_) (fun hc => ?_)
  · have hlt : i < s.objs.length := by have := of_decide_eq_true hc; omega
    have hwrap : IntKind.i64.wrap ((i : Int) + 1) = ((i + 1 : Nat) : Int) := by rw [wrap_int (by omega) (by omega)]; omega
    refine Exists.intro i ?_
    refine And.intro rfl ?_
    refine And.intro hlt ?_
    dsimp only [St.put, rn, rns, rid, rnH, rnB, dead, AV.cells, setAt, enumEnv, List.length_nil, List.length_cons, List.getElem?_nil, List.getElem?_cons_zero, List.getElem?_cons_succ, Nat.reduceAdd, Nat.reduceSub, Nat.add_zero]
    refine brk.mk (fun he => ?_) (fun he => ?_)
    · rw [beq_iff] at he
      refine Exists.intro i ?_
      refine And.intro rfl ?_
      refine And.intro hlt ?_
      refine And.intro rfl ?_
      rw [findR_some hlt hno (of_decide_eq_true he)]
      exact AVle.tup (AVles.cons (AVle.refl _) (AVles.cons AVle.tt AVles.nil))
    · rw [beq_iff] at he
      refine ⟨_, Le.mk ?_ ?_ rfl rfl, ⟨i + 1, hlt, fun k hk => ?_, rfl⟩, ?_⟩
      · exact ⟨rfl, rfl, rfl, rfl, congrArg (AV.i .i64) hwrap, trivial⟩
      · exact ⟨rfl, rfl, trivial⟩
      · rcases Nat.lt_or_ge k i with h | h
        · exact hno k h
        · obtain rfl : k = i := by omega
          exact of_decide_eq_false he
      · show (_ - ((i + 1 : Nat) : Int)).toNat < (_ - (i : Int)).toNat
        omega
  · have hin : i = s.objs.length := by have := of_decide_eq_false hc; omega
    subst hin
    refine And.intro rfl ?_
    rw [findR_none hno]
    exact AVle.tup (AVles.cons (AVle.agg (AVles.cons (AVle.refl _) (AVles.cons (AVle.refl _) (AVles.cons (AVle.refl _) (AVles.cons AVle.ff AVles.nil))))) (AVles.cons AVle.ff AVles.nil))
end Go.Proofs.T

namespace Go.Proofs.T
open Go Go.Hb

theorem filter_one {l : List Ob} {p : Ob → Bool} {i : Nat} (hi : i < l.length) : (l.take (i + 1)).filter p = (l.take i).filter p ++ (match p (l.getD i ob0) with
    | true => [l.getD i ob0]
    | false => []) := by
  rw [take_one hi, List.filter_append]
  congr 1
theorem filter_len {l : List Ob} {p : Ob → Bool} (i : Nat) : ((l.take i).filter p).length ≤ i := Nat.le_trans (List.length_filter_le _ _) (by simp; omega)
theorem appO (out : List Ob) (y : Ob) : ∀ a j, a < (out ++ [y]).length → j < 4 → appCell out.length (cellO out) (listCell 4 [.s y.name, .s y.data, .s y.was, .b y.had]) a j = cellO (out ++ [y]) a j := by
  intro a j ha hj
  have ha' : a < out.length + 1 := by simpa using ha
  by_cases h : a < out.length
  · rw [appCell_old h]
    unfold cellO
    rw [List.getD_eq_getElem?_getD, List.getD_eq_getElem?_getD, List.getElem?_append_left h]
  · obtain rfl : a = out.length := by omega
    rw [appCell_new (by omega), Nat.sub_self]
    unfold cellO
    rw [List.getD_eq_getElem?_getD, List.getElem?_append_right (Nat.le_refl _), Nat.sub_self]
    match j, hj with
    | 0, _ => rfl
    | 1, _ => rfl
    | 2, _ => rfl
    | 3, _ => rfl
    | n + 4, h => omega

/-- All objects but one; with another one in its place, if that is so. -/
def wo (l : List Ob) (name : ByteArray) (w : Bool) (x : Ob) : List Ob :=
  l.filter (fun o => ltb o.name name) ++ ((match w with
    | true => [x]
    | false => []) ++ l.filter (fun o => ltb name o.name))

theorem without35 (s : Sh) (name : ByteArray) (w : Bool) (x : Ob) (hl : s.objs.length ≤ 1099511627776) : Pure Try.prog 35 [sAV s, .s name, .b w, xAV x] (fun r => r = sAV ⟨wo s.objs name w x, s.fates⟩) := by
  refine Pure.weak (Post := fun r => AVle r (sAV ⟨wo s.objs name w x, s.fates⟩)) (Pure.of (XCall.body is35 rfl ?_)) fun r h => ⟨_, rfl, h⟩
  show awp _ (.loop _) _ _
  dsimp only [St.put, rn, rns, rid, rnH, rnB, dead, AV.cells, setAt, enumEnv, List.length_nil, List.length_cons, List.getElem?_nil, List.getElem?_cons_zero, List.getElem?_cons_succ, Nat.reduceAdd, Nat.reduceSub, Nat.add_zero]
  refine loop.mk (fun σ => ∃ (i : Nat) (out : List Ob), i ≤ s.objs.length ∧ out = (s.objs.take i).filter (fun o => ltb o.name name) ∧
    σ = ⟨[(1, .s name), (2, .b w), (4, .p 0 0), (7, .p 1 0), (8, .p 2 0), (9, .sl 4 4 0 out.length), (15, .i .i64 (s.objs.length : Int)), (16, .i .i64 (i : Int))],
      [(0, .lit [oAV s.objs, fAV s.fates]), (1, .lit [.s x.name, .s x.data, .s x.was, .b x.had]), (2, .lit [.nils, .nils]), (4, .rows out.length 4 (cellO out))], 5⟩) (fun σ => (s.objs.length - num 16 σ).toNat) ?_ ?_
  · refine ⟨_, Le.trans (Le.lev (t := 9) rfl (Lev.sa (cell := cellO []) rfl BlkLe.none)) (Le.mk ?_ ?_ rfl rfl), 0, [], Nat.zero_le _, rfl, rfl⟩
    · exact ⟨rfl, rfl, rfl, rfl, rfl, rfl, rfl, rfl, trivial⟩
    · exact ⟨rfl, rfl, rfl, BlkLe.refl _ rfl, trivial⟩
  rintro σ' ⟨i, out, hi, hout, rfl⟩
  show aops _ _ _ _
  refine brk.mk (fun hc => ?_) (fun hc => ?_)
  · have hlt : i < s.objs.length := by have := of_decide_eq_true hc; omega
    have hwrap : IntKind.i64.wrap ((i : Int) + 1) = ((i + 1 : Nat) : Int) := by rw [wrap_int (by omega) (by omega)]; omega
    have hnl : out.length ≤ i := by rw [hout]; exact filter_len i
    refine Exists.intro i ?_
    refine And.intro rfl ?_
    refine And.intro hlt ?_
    dsimp only [St.put, rn, rns, rid, rnH, rnB, dead, AV.cells, setAt, enumEnv, List.length_nil, List.length_cons, List.getElem?_nil, List.getElem?_cons_zero, List.getElem?_cons_succ, Nat.reduceAdd, Nat.reduceSub, Nat.add_zero]
    refine brk.mk (fun hp => ?_) (fun hp => ?_)
    · rw [less_ltb] at hp
      dsimp only [St.put, rn, rns, rid, rnH, rnB, dead, AV.cells, setAt, enumEnv, List.length_nil, List.length_cons, List.getElem?_nil, List.getElem?_cons_zero, List.getElem?_cons_succ, Nat.reduceAdd, Nat.reduceSub, Nat.add_zero]
      refine Exists.intro i ?_
      refine And.intro rfl ?_
      refine And.intro hlt ?_
      dsimp only [St.put, rn, rns, rid, rnH, rnB, dead, AV.cells, setAt, enumEnv, List.length_nil, List.length_cons, List.getElem?_nil, List.getElem?_cons_zero, List.getElem?_cons_succ, Nat.reduceAdd, Nat.reduceSub, Nat.add_zero]
      refine And.intro (Nat.le_refl _) ?_
      refine And.intro (show (out.length + 1) * 56 ≤ 140737488355328 by omega) ?_
      dsimp only [St.put, rn, rns, rid, rnH, rnB, dead, AV.cells, setAt, enumEnv, List.length_nil, List.length_cons, List.getElem?_nil, List.getElem?_cons_zero, List.getElem?_cons_succ, Nat.reduceAdd, Nat.reduceSub, Nat.add_zero]
      refine ⟨_, Le.trans (Le.swap 4 6 (by decide) (by decide) (by decide : 4 < 7) (by decide : 6 < 7)) (Le.mk ?_ ?_ rfl rfl), ⟨i + 1, out ++ [s.objs.getD i ob0], hlt, ?_, rfl⟩, ?_⟩
      · exact ⟨rfl, rfl, rfl, rfl, rfl, congrArg (AV.sl 4 4 0) (by simp), rfl, congrArg (AV.i .i64) hwrap, trivial⟩
      · exact ⟨rfl, rfl, rfl, BlkLe.rows (by simp) (appO out _), trivial⟩
      · rw [filter_one hlt, hout, hp]
      · show (_ - ((i + 1 : Nat) : Int)).toNat < (_ - (i : Int)).toNat
        omega
    · rw [less_ltb] at hp
      dsimp only [St.put, rn, rns, rid, rnH, rnB, dead, AV.cells, setAt, enumEnv, List.length_nil, List.length_cons, List.getElem?_nil, List.getElem?_cons_zero, List.getElem?_cons_succ, Nat.reduceAdd, Nat.reduceSub, Nat.add_zero]
      refine ⟨_, Le.mk ?_ ?_ rfl rfl, ⟨i + 1, out, hlt, ?_, rfl⟩, ?_⟩
      · exact ⟨rfl, rfl, rfl, rfl, rfl, rfl, rfl, congrArg (AV.i .i64) hwrap, trivial⟩
      · exact ⟨rfl, rfl, rfl, BlkLe.refl _ rfl, trivial⟩
      · rw [filter_one hlt, hout, hp, List.append_nil]
      · show (_ - ((i + 1 : Nat) : Int)).toNat < (_ - (i : Int)).toNat
        omega
  · have hin : i = s.objs.length := by have := of_decide_eq_false hc; omega
    subst hin
    rw [List.take_length] at hout
    have hnl : out.length ≤ s.objs.length := by rw [hout]; exact List.length_filter_le _ _
    dsimp only [St.put, rn, rns, rid, rnH, rnB, dead, AV.cells, setAt, enumEnv, List.length_nil, List.length_cons, List.getElem?_nil, List.getElem?_cons_zero, List.getElem?_cons_succ, Nat.reduceAdd, Nat.reduceSub, Nat.add_zero]
    show aops _ _ _ _
    refine brk.mk (fun hw => ?_) (fun hw => ?_)
    · subst hw
      dsimp only [St.put, rn, rns, rid, rnH, rnB, dead, AV.cells, setAt, enumEnv, List.length_nil, List.length_cons, List.getElem?_nil, List.getElem?_cons_zero, List.getElem?_cons_succ, Nat.reduceAdd, Nat.reduceSub, Nat.add_zero]
      refine And.intro (Nat.le_refl _) ?_
      refine And.intro (show (out.length + 1) * 56 ≤ 140737488355328 by omega) ?_
      dsimp only [St.put, rn, rns, rid, rnH, rnB, dead, AV.cells, setAt, enumEnv, List.length_nil, List.length_cons, List.getElem?_nil, List.getElem?_cons_zero, List.getElem?_cons_succ, Nat.reduceAdd, Nat.reduceSub, Nat.add_zero]
      show awp _ (.loop _) _ _
      dsimp only [St.put, rn, rns, rid, rnH, rnB, dead, AV.cells, setAt, enumEnv, List.length_nil, List.length_cons, List.getElem?_nil, List.getElem?_cons_zero, List.getElem?_cons_succ, Nat.reduceAdd, Nat.reduceSub, Nat.add_zero]
      refine loop.mk (fun σ => ∃ (i : Nat) (o2 : List Ob), i ≤ s.objs.length ∧ o2 = (out ++ [x]) ++ (s.objs.take i).filter (fun o => ltb name o.name) ∧
        σ = ⟨[(1, .s name), (4, .p 0 0), (8, .p 2 0), (9, .sl 7 4 0 o2.length), (43, .i .i64 (s.objs.length : Int)), (44, .i .i64 (i : Int))],
          [(0, .lit [oAV s.objs, fAV s.fates]), (2, .lit [.nils, .nils]), (7, .rows o2.length 4 (cellO o2))], 8⟩) (fun σ => (s.objs.length - num 44 σ).toNat) ?_ ?_
      · refine ⟨_, Le.trans (Le.lev (t := 9) rfl (Lev.sl (id := 6) (Nat.le_refl _) rfl)) (Le.mk ?_ ?_ rfl rfl), 0, (out ++ [x]), Nat.zero_le _, (List.append_nil _).symm, rfl⟩
        · exact ⟨rfl, rfl, rfl, congrArg (AV.sl 7 4 0) (by simp), rfl, rfl, trivial⟩
        · exact ⟨rfl, rfl, BlkLe.rows (by simp) (appO out x), trivial⟩
      rintro σ' ⟨i, o2, hi, ho2, rfl⟩
      show aops _ _ _ _
      refine brk.mk (fun hc => ?_) (fun hc => ?_)
      · have hlt : i < s.objs.length := by have := of_decide_eq_true hc; omega
        have hwrap : IntKind.i64.wrap ((i : Int) + 1) = ((i + 1 : Nat) : Int) := by rw [wrap_int (by omega) (by omega)]; omega
        have hnl : o2.length ≤ s.objs.length + 1 + i := by rw [ho2]; have := @filter_len s.objs (fun o => ltb name o.name) i; have := List.length_filter_le (fun o => ltb o.name name) s.objs; simp only [List.length_append, List.length_cons, List.length_nil]; omega
        refine Exists.intro i ?_
        refine And.intro rfl ?_
        refine And.intro hlt ?_
        dsimp only [St.put, rn, rns, rid, rnH, rnB, dead, AV.cells, setAt, enumEnv, List.length_nil, List.length_cons, List.getElem?_nil, List.getElem?_cons_zero, List.getElem?_cons_succ, Nat.reduceAdd, Nat.reduceSub, Nat.add_zero]
        refine brk.mk (fun hp => ?_) (fun hp => ?_)
        · rw [gtr_ltb] at hp
          dsimp only [St.put, rn, rns, rid, rnH, rnB, dead, AV.cells, setAt, enumEnv, List.length_nil, List.length_cons, List.getElem?_nil, List.getElem?_cons_zero, List.getElem?_cons_succ, Nat.reduceAdd, Nat.reduceSub, Nat.add_zero]
          refine Exists.intro i ?_
          refine And.intro rfl ?_
          refine And.intro hlt ?_
          dsimp only [St.put, rn, rns, rid, rnH, rnB, dead, AV.cells, setAt, enumEnv, List.length_nil, List.length_cons, List.getElem?_nil, List.getElem?_cons_zero, List.getElem?_cons_succ, Nat.reduceAdd, Nat.reduceSub, Nat.add_zero]
          refine And.intro (Nat.le_refl _) ?_
          refine And.intro (show (o2.length + 1) * 56 ≤ 140737488355328 by omega) ?_
          dsimp only [St.put, rn, rns, rid, rnH, rnB, dead, AV.cells, setAt, enumEnv, List.length_nil, List.length_cons, List.getElem?_nil, List.getElem?_cons_zero, List.getElem?_cons_succ, Nat.reduceAdd, Nat.reduceSub, Nat.add_zero]
          refine ⟨_, Le.trans (Le.swap 7 9 (by decide) (by decide) (by decide : 7 < 10) (by decide : 9 < 10)) (Le.mk ?_ ?_ rfl rfl), ⟨i + 1, o2 ++ [s.objs.getD i ob0], hlt, ?_, rfl⟩, ?_⟩
          · exact ⟨rfl, rfl, rfl, congrArg (AV.sl 7 4 0) (by simp), rfl, congrArg (AV.i .i64) hwrap, trivial⟩
          · exact ⟨rfl, rfl, BlkLe.rows (by simp) (appO o2 _), trivial⟩
          · rw [filter_one hlt, ho2, hp]; simp only [List.append_assoc]
          · show (_ - ((i + 1 : Nat) : Int)).toNat < (_ - (i : Int)).toNat
            omega
        · rw [gtr_ltb] at hp
          dsimp only [St.put, rn, rns, rid, rnH, rnB, dead, AV.cells, setAt, enumEnv, List.length_nil, List.length_cons, List.getElem?_nil, List.getElem?_cons_zero, List.getElem?_cons_succ, Nat.reduceAdd, Nat.reduceSub, Nat.add_zero]
          refine ⟨_, Le.mk ?_ ?_ rfl rfl, ⟨i + 1, o2, hlt, ?_, rfl⟩, ?_⟩
          · exact ⟨rfl, rfl, rfl, rfl, rfl, congrArg (AV.i .i64) hwrap, trivial⟩
          · exact ⟨rfl, rfl, BlkLe.refl _ rfl, trivial⟩
          · rw [filter_one hlt, ho2, hp, List.append_nil]
          · show (_ - ((i + 1 : Nat) : Int)).toNat < (_ - (i : Int)).toNat
            omega
      · have hin : i = s.objs.length := by have := of_decide_eq_false hc; omega
        subst hin
        rw [List.take_length] at ho2
        dsimp only [St.put, rn, rns, rid, rnH, rnB, dead, AV.cells, setAt, enumEnv, List.length_nil, List.length_cons, List.getElem?_nil, List.getElem?_cons_zero, List.getElem?_cons_succ, Nat.reduceAdd, Nat.reduceSub, Nat.add_zero]
        refine And.intro (Nat.le_of_eq (Nat.zero_add _)) ?_
        refine And.intro rfl ?_
        have he : o2 = wo s.objs name true x := by rw [ho2, hout]; unfold wo; simp only [List.append_assoc]
        rw [← he]
        exact AVle.agg (AVles.cons AVle.fs0 (AVles.refl _))
    · subst hw
      dsimp only [St.put, rn, rns, rid, rnH, rnB, dead, AV.cells, setAt, enumEnv, List.length_nil, List.length_cons, List.getElem?_nil, List.getElem?_cons_zero, List.getElem?_cons_succ, Nat.reduceAdd, Nat.reduceSub, Nat.add_zero]
      show awp _ (.loop _) _ _
      dsimp only [St.put, rn, rns, rid, rnH, rnB, dead, AV.cells, setAt, enumEnv, List.length_nil, List.length_cons, List.getElem?_nil, List.getElem?_cons_zero, List.getElem?_cons_succ, Nat.reduceAdd, Nat.reduceSub, Nat.add_zero]
      refine loop.mk (fun σ => ∃ (i : Nat) (o2 : List Ob), i ≤ s.objs.length ∧ o2 = out ++ (s.objs.take i).filter (fun o => ltb name o.name) ∧
        σ = ⟨[(1, .s name), (4, .p 0 0), (8, .p 2 0), (9, .sl 5 4 0 o2.length), (43, .i .i64 (s.objs.length : Int)), (44, .i .i64 (i : Int))],
          [(0, .lit [oAV s.objs, fAV s.fates]), (2, .lit [.nils, .nils]), (5, .rows o2.length 4 (cellO o2))], 6⟩) (fun σ => (s.objs.length - num 44 σ).toNat) ?_ ?_
      · refine ⟨_, Le.trans (Le.lev (t := 9) rfl (Lev.sl (id := 4) (Nat.le_refl _) rfl)) (Le.mk ?_ ?_ rfl rfl), 0, out, Nat.zero_le _, (List.append_nil _).symm, rfl⟩
        · exact ⟨rfl, rfl, rfl, rfl, rfl, rfl, trivial⟩
        · exact ⟨rfl, rfl, BlkLe.refl _ rfl, trivial⟩
      rintro σ' ⟨i, o2, hi, ho2, rfl⟩
      show aops _ _ _ _
      refine brk.mk (fun hc => ?_) (fun hc => ?_)
      · have hlt : i < s.objs.length := by have := of_decide_eq_true hc; omega
        have hwrap : IntKind.i64.wrap ((i : Int) + 1) = ((i + 1 : Nat) : Int) := by rw [wrap_int (by omega) (by omega)]; omega
        have hnl : o2.length ≤ s.objs.length + 1 + i := by rw [ho2]; have := @filter_len s.objs (fun o => ltb name o.name) i; have := List.length_filter_le (fun o => ltb o.name name) s.objs; simp only [List.length_append, List.length_cons, List.length_nil]; omega
        refine Exists.intro i ?_
        refine And.intro rfl ?_
        refine And.intro hlt ?_
        dsimp only [St.put, rn, rns, rid, rnH, rnB, dead, AV.cells, setAt, enumEnv, List.length_nil, List.length_cons, List.getElem?_nil, List.getElem?_cons_zero, List.getElem?_cons_succ, Nat.reduceAdd, Nat.reduceSub, Nat.add_zero]
        refine brk.mk (fun hp => ?_) (fun hp => ?_)
        · rw [gtr_ltb] at hp
          dsimp only [St.put, rn, rns, rid, rnH, rnB, dead, AV.cells, setAt, enumEnv, List.length_nil, List.length_cons, List.getElem?_nil, List.getElem?_cons_zero, List.getElem?_cons_succ, Nat.reduceAdd, Nat.reduceSub, Nat.add_zero]
          refine Exists.intro i ?_
          refine And.intro rfl ?_
          refine And.intro hlt ?_
          dsimp only [St.put, rn, rns, rid, rnH, rnB, dead, AV.cells, setAt, enumEnv, List.length_nil, List.length_cons, List.getElem?_nil, List.getElem?_cons_zero, List.getElem?_cons_succ, Nat.reduceAdd, Nat.reduceSub, Nat.add_zero]
          refine And.intro (Nat.le_refl _) ?_
          refine And.intro (show (o2.length + 1) * 56 ≤ 140737488355328 by omega) ?_
          dsimp only [St.put, rn, rns, rid, rnH, rnB, dead, AV.cells, setAt, enumEnv, List.length_nil, List.length_cons, List.getElem?_nil, List.getElem?_cons_zero, List.getElem?_cons_succ, Nat.reduceAdd, Nat.reduceSub, Nat.add_zero]
          refine ⟨_, Le.trans (Le.swap 5 7 (by decide) (by decide) (by decide : 5 < 8) (by decide : 7 < 8)) (Le.mk ?_ ?_ rfl rfl), ⟨i + 1, o2 ++ [s.objs.getD i ob0], hlt, ?_, rfl⟩, ?_⟩
          · exact ⟨rfl, rfl, rfl, congrArg (AV.sl 5 4 0) (by simp), rfl, congrArg (AV.i .i64) hwrap, trivial⟩
          · exact ⟨rfl, rfl, BlkLe.rows (by simp) (appO o2 _), trivial⟩
          · rw [filter_one hlt, ho2, hp]; simp only [List.append_assoc]
          · show (_ - ((i + 1 : Nat) : Int)).toNat < (_ - (i : Int)).toNat
            omega
        · rw [gtr_ltb] at hp
          dsimp only [St.put, rn, rns, rid, rnH, rnB, dead, AV.cells, setAt, enumEnv, List.length_nil, List.length_cons, List.getElem?_nil, List.getElem?_cons_zero, List.getElem?_cons_succ, Nat.reduceAdd, Nat.reduceSub, Nat.add_zero]
          refine ⟨_, Le.mk ?_ ?_ rfl rfl, ⟨i + 1, o2, hlt, ?_, rfl⟩, ?_⟩
          · exact ⟨rfl, rfl, rfl, rfl, rfl, congrArg (AV.i .i64) hwrap, trivial⟩
          · exact ⟨rfl, rfl, BlkLe.refl _ rfl, trivial⟩
          · rw [filter_one hlt, ho2, hp, List.append_nil]
          · show (_ - ((i + 1 : Nat) : Int)).toNat < (_ - (i : Int)).toNat
            omega
      · have hin : i = s.objs.length := by have := of_decide_eq_false hc; omega
        subst hin
        rw [List.take_length] at ho2
        dsimp only [St.put, rn, rns, rid, rnH, rnB, dead, AV.cells, setAt, enumEnv, List.length_nil, List.length_cons, List.getElem?_nil, List.getElem?_cons_zero, List.getElem?_cons_succ, Nat.reduceAdd, Nat.reduceSub, Nat.add_zero]
        refine And.intro (Nat.le_of_eq (Nat.zero_add _)) ?_
        refine And.intro rfl ?_
        have he : o2 = wo s.objs name false x := by rw [ho2, hout]; unfold wo; rfl
        rw [← he]
        exact AVle.agg (AVles.cons AVle.fs0 (AVles.refl _))
end Go.Proofs.T

namespace Go.Proofs.T
open Go Go.Hb

/-! ### The reference's lists are the shelf's -/

theorem getD_of {l : List Ob} {k : Nat} (h : k < l.length) : l.getD k ob0 = l[k] := by
  rw [List.getD_eq_getElem?_getD, List.getElem?_eq_getElem h]; rfl
theorem filter_take {l : List Ob} {p : Ob → Bool} {n : Nat} (h1 : ∀ k, k < n → k < l.length → p (l.getD k ob0) = true) (h2 : ∀ k, n ≤ k → k < l.length → p (l.getD k ob0) = false) : l.filter p = l.take n := by
  conv => lhs; rw [← List.take_append_drop n l]
  rw [List.filter_append]
  have e1 : (l.take n).filter p = l.take n := by
    rw [List.filter_eq_self]
    intro x hx
    obtain ⟨k, hk, rfl⟩ := List.mem_iff_getElem.1 hx
    have hk' : k < n ∧ k < l.length := Nat.lt_min.1 (by simpa using hk)
    have := h1 k hk'.1 hk'.2
    rw [getD_of hk'.2] at this
    simpa using this
  have e2 : (l.drop n).filter p = [] := by
    rw [List.filter_eq_nil_iff]
    intro x hx
    obtain ⟨k, hk, rfl⟩ := List.mem_iff_getElem.1 hx
    have hk' : n + k < l.length := by have : k < l.length - n := by simpa using hk
                                      omega
    have := h2 (n + k) (by omega) hk'
    rw [getD_of hk'] at this
    simpa using this
  rw [e1, e2, List.append_nil]
theorem filter_drop {l : List Ob} {p : Ob → Bool} {n : Nat} (h1 : ∀ k, k < n → k < l.length → p (l.getD k ob0) = false) (h2 : ∀ k, n ≤ k → k < l.length → p (l.getD k ob0) = true) : l.filter p = l.drop n := by
  conv => lhs; rw [← List.take_append_drop n l]
  rw [List.filter_append]
  have e1 : (l.take n).filter p = [] := by
    rw [List.filter_eq_nil_iff]
    intro x hx
    obtain ⟨k, hk, rfl⟩ := List.mem_iff_getElem.1 hx
    have hk' : k < n ∧ k < l.length := Nat.lt_min.1 (by simpa using hk)
    have := h1 k hk'.1 hk'.2
    rw [getD_of hk'.2] at this
    simpa using this
  have e2 : (l.drop n).filter p = l.drop n := by
    rw [List.filter_eq_self]
    intro x hx
    obtain ⟨k, hk, rfl⟩ := List.mem_iff_getElem.1 hx
    have hk' : n + k < l.length := by have : k < l.length - n := by simpa using hk
                                      omega
    have := h2 (n + k) (by omega) hk'
    rw [getD_of hk'] at this
    simpa using this
  rw [e1, e2, List.nil_append]

theorem pos_ge {l : List Ob} {name : ByteArray} (hs : Sorted l) {k : Nat} (h : pos l name ≤ k) (hk : k < l.length) : ltb (l.getD k ob0).name name = false := by
  have hp := pos_at l name (by omega)
  rcases Nat.eq_or_lt_of_le h with e | e
  · rw [← e]; exact hp
  · cases hc : ltb (l.getD k ob0).name name with
    | false => rfl
    | true =>
      have := ltb_trans (hs _ _ e hk) hc
      rw [hp] at this
      cases this
theorem pos_gt {l : List Ob} {name : ByteArray} (hs : Sorted l) {k : Nat} (h : pos l name ≤ k) (hk : k < l.length) (hn : ¬ (l.getD k ob0).name = name) : ltb name (l.getD k ob0).name = true := by
  rcases ltb_tri (l.getD k ob0).name name with h1 | h1 | h1
  · rw [pos_ge hs h hk] at h1; cases h1
  · exact absurd h1 hn
  · exact h1
/-- Only one may have a name. -/
theorem only {l : List Ob} {name : ByteArray} (hs : Sorted l) {k : Nat} (hk : k < l.length) (he : (l.getD k ob0).name = name) : k = pos l name := by
  rcases Nat.lt_trichotomy k (pos l name) with h | h | h
  · have := pos_lo l name k h
    rw [he, ltb_irrefl] at this
    cases this
  · exact h
  · have h1 := hs _ _ h hk
    rw [he] at h1
    rw [pos_at l name (by omega)] at h1
    cases h1
theorem there_of {l : List Ob} {name : ByteArray} (hs : Sorted l) {k : Nat} (hk : k < l.length) (he : (l.getD k ob0).name = name) : there l name := by
  have := only hs hk he
  subst this
  exact ⟨hk, he⟩
theorem filter_lo {l : List Ob} {name : ByteArray} (hs : Sorted l) : l.filter (fun o => ltb o.name name) = l.take (pos l name) :=
  filter_take (fun k h _ => pos_lo l name k h) (fun k h hk => pos_ge hs h hk)
theorem filter_hi_there {l : List Ob} {name : ByteArray} (hs : Sorted l) (h : there l name) : l.filter (fun o => ltb name o.name) = l.drop (pos l name + 1) := by
  refine filter_drop (fun k h1 hk => ?_) (fun k h1 hk => pos_gt hs (by omega) hk fun e => ?_)
  · rcases Nat.lt_or_ge k (pos l name) with h2 | h2
    · exact ltb_asymm (pos_lo l name k h2)
    · obtain rfl : k = pos l name := by omega
      show ltb name (l.getD (pos l name) ob0).name = false
      rw [h.2]; exact ltb_irrefl name
  · have := only hs hk e
    omega
theorem filter_hi_not {l : List Ob} {name : ByteArray} (hs : Sorted l) (h : ¬ there l name) : l.filter (fun o => ltb name o.name) = l.drop (pos l name) :=
  filter_drop (fun k h1 hk => ltb_asymm (pos_lo l name k h1)) (fun k h1 hk => pos_gt hs h1 hk fun e => h (there_of hs hk e))

theorem wo_there {l : List Ob} {name : ByteArray} (hs : Sorted l) (h : there l name) (x : Ob) : wo l name true x = l.set (pos l name) x := by
  unfold wo
  rw [filter_lo hs, filter_hi_there hs h, List.set_eq_take_append_cons_drop, if_pos h.1]
  rfl
theorem wo_not {l : List Ob} {name : ByteArray} (hs : Sorted l) (h : ¬ there l name) (x : Ob) : wo l name true x = ins l (pos l name) x := by
  unfold wo ins
  rw [filter_lo hs, filter_hi_not hs h]
  rfl
theorem wo_del {l : List Ob} {name : ByteArray} (hs : Sorted l) (h : there l name) (x : Ob) : wo l name false x = del l (pos l name) := by
  unfold wo del
  rw [filter_lo hs, filter_hi_there hs h]
  rfl
theorem findR_eq {l : List Ob} {name : ByteArray} (hs : Sorted l) : findR l name = if there l name then some (l.getD (pos l name) ob0) else none := by
  by_cases h : there l name
  · rw [if_pos h]
    exact findR_some h.1 (fun k hk e => by have := only hs (by have := h.1; omega) e; omega) h.2
  · rw [if_neg h]
    exact findR_none fun i hi e => h (there_of hs hi e)
theorem fateR_eq (s : Sh) (k : Int) (h1 : 1 ≤ k) (h2 : k ≤ 4) : (fateR s == k) = (fateOf s == k) := by
  unfold fateR
  by_cases h : fateOf s < 0 ∨ 4 < fateOf s
  · rw [if_pos h]
    have e1 : ((0 : Int) == k) = false := by simpa using (by omega : ¬ (0 : Int) = k)
    have e2 : (fateOf s == k) = false := by simpa using (by omega : ¬ fateOf s = k)
    rw [e1, e2]
  · rw [if_neg h]
end Go.Proofs.T

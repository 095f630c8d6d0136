/-
  Parts of the proof: no statement of the seat is proved here.
-/
import Derived.Test.YtpcnfokdhiknhaaGreatDoorSpreadPowerGb
import Derived.Lib.Overlaps
import Derived.Lib.Bytealg
import Derived.Lib.Strings
set_option linter.unusedSimpArgs false
set_option linter.unusedVariables false
set_option linter.unusedSectionVars false

namespace Go.Hb
open Go.RowKit
variable [Amb]

/-! ### What is known, said in other words -/

def AVle (a b : AV) : Prop := ∀ x v, RelV x a v → RelV x b v
def AVles (as bs : List AV) : Prop := ∀ x vs, RelVs x as vs → RelVs x bs vs
theorem AVle.refl (a : AV) : AVle a a := fun _ _ h => h
theorem AVle.trans {a b c : AV} (h : AVle a b) (k : AVle b c) : AVle a c := fun x v r => k x v (h x v r)
theorem AVle.of_eq {a b : AV} (h : a = b) : AVle a b := h ▸ AVle.refl a
theorem AVles.nil : AVles [] [] := fun _ _ h => h
theorem AVles.cons {a b : AV} {as bs : List AV} (h : AVle a b) (k : AVles as bs) : AVles (a :: as) (b :: bs) := fun x vs r => by
  cases vs with
  | nil => simp [RelVs] at r
  | cons v vs =>
    simp only [RelVs] at r ⊢
    exact ⟨h x v r.1, k x vs r.2⟩
theorem AVles.refl (as : List AV) : AVles as as := fun _ _ h => h
theorem AVle.agg {as bs : List AV} (h : AVles as bs) : AVle (.agg as) (.agg bs) := fun x v r => by
  simp only [RelV] at r ⊢
  obtain ⟨vs, e, r⟩ := r
  exact ⟨vs, e, h x _ r⟩
theorem AVle.tup {as bs : List AV} (h : AVles as bs) : AVle (.tup as) (.tup bs) := fun x v r => by
  simp only [RelV] at r ⊢
  obtain ⟨vs, e, r⟩ := r
  exact ⟨vs, e, h x _ r⟩
theorem AVle.fs {n size : Nat} {c c' : Nat → Nat → CV} (h : ∀ i j, i < n → j < size → c i j = c' i j) : AVle (.fs n size c) (.fs n size c') := fun x v r => by
  simp only [RelV] at r ⊢
  obtain ⟨A, cap, e, hc, r⟩ := r
  refine ⟨A, cap, e, hc, fun hn => ?_⟩
  obtain ⟨ad, e, hi, r⟩ := r hn
  refine ⟨ad, e, hi, fun i j h1 h2 => ?_⟩
  rw [← h i j h1 h2]
  exact r i j h1 h2
theorem AVle.fs' {n m size : Nat} {c c' : Nat → Nat → CV} (hn : n = m) (h : ∀ i j, i < n → j < size → c i j = c' i j) : AVle (.fs n size c) (.fs m size c') := by
  subst hn
  exact AVle.fs h
theorem AVle.nils (size : Nat) (c : Nat → Nat → CV) : AVle .nils (.fs 0 size c) := fun x v r => by
  simp only [RelV] at r ⊢
  exact ⟨none, 0, r, Nat.le_refl _, fun h => absurd rfl h⟩
theorem AVle.tt : AVle .tt (.b true) := fun x v r => by simpa only [RelV] using r
theorem AVle.ff : AVle .ff (.b false) := fun x v r => by simpa only [RelV] using r

theorem Pure.weak {P : Program} {f : FuncId} {args : List AV} {Post Post' : AV → Prop} (h : Pure P f args Post) (hq : ∀ r, Post r → ∃ r', Post' r' ∧ AVle r r') : Pure P f args Post' := by
  refine ⟨fun w I vals hb hr => ?_⟩
  rcases h.go w I vals hb hr with ⟨h1, h2⟩ | ⟨v, w', I', r, h1, h2, h3, h4, h5⟩
  · refine .inl ⟨h1, h2.mono fun e w' ⟨v, he, I', r, hQ, hs, hb', hrel⟩ => ?_⟩
    obtain ⟨r', hr', hle⟩ := hq r hQ
    exact ⟨v, he, I', r', hr', hs, hb', hle _ _ hrel⟩
  · obtain ⟨r', hr', hle⟩ := hq r h2
    exact .inr ⟨v, w', I', r', h1, hr', h3, h4, hle _ _ h5⟩

theorem Pure.args {P : Program} {f : FuncId} {args args' : List AV} {Post : AV → Prop} (h : Pure P f args' Post) (ha : AVles args args') : Pure P f args Post :=
  ⟨fun w I vals hb hr => h.go w I vals hb (ha _ _ hr)⟩

/-- From one standing to one said in other words. -/
structure Lev (r : AV) (H : List (Nat × Blk)) (n : Nat) (r' : AV) (H' : List (Nat × Blk)) (n' : Nat) : Prop where
  go : ∀ (W : Nat → Prop) (x : Cx) (v : Value), HOk W x H n → RelV x r v → ∃ y : Cx, y.w = x.w ∧ Step W x y ∧ HOk W y H' n' ∧ RelV y r' v

theorem Lev.of {r r' : AV} {H : List (Nat × Blk)} {n : Nat} (h : AVle r r') : Lev r H n r' H n := ⟨fun W x v hh hr => ⟨x, rfl, Step.refl W x, hh, h x v hr⟩⟩
theorem Lev.trans {r r' r'' : AV} {H H' H'' : List (Nat × Blk)} {n n' n'' : Nat} (h : Lev r H n r' H' n') (k : Lev r' H' n' r'' H'' n'') : Lev r H n r'' H'' n'' := by
  refine ⟨fun W x v hh hr => ?_⟩
  obtain ⟨y, e1, s1, h1, r1⟩ := h.go W x v hh hr
  obtain ⟨z, e2, s2, h2, r2⟩ := k.go W y v h1 r1
  exact ⟨z, e2.trans e1, s1.trans s2, h2, r2⟩

theorem XCall.weak {P : Program} {f : FuncId} {args : List AV} {H : List (Nat × Blk)} {nxt : Nat} {K K' : AV → List (Nat × Blk) → Nat → Prop} (h : XCall P f args H nxt K)
    (hk : ∀ r H' n', K r H' n' → ∃ r2 H2 n2, K' r2 H2 n2 ∧ Lev r H' n' r2 H2 n2) : XCall P f args H nxt K' := by
  refine ⟨fun W x vals hh hr => ?_⟩
  rcases h.go W x vals hh hr with ⟨h1, h2⟩ | ⟨v, y, r, H', n', h1, h2, h3, h4, h5⟩
  · refine .inl ⟨h1, h2.mono fun e w' ⟨v, he, y, r, H', n', hw, hK, hs, hok, hrel⟩ => ?_⟩
    obtain ⟨r2, H2, n2, hK2, hlev⟩ := hk _ _ _ hK
    obtain ⟨z, e1, s1, k1, k2⟩ := hlev.go W y v hok hrel
    exact ⟨v, he, z, r2, H2, n2, e1.trans hw, hK2, hs.trans s1, k1, k2⟩
  · obtain ⟨r2, H2, n2, hK2, hlev⟩ := hk _ _ _ h2
    obtain ⟨z, e1, s1, k1, k2⟩ := hlev.go W y v h4 h5
    exact .inr ⟨v, z, r2, H2, n2, by rw [e1]; exact h1, hK2, h3.trans s1, k1, k2⟩

/-- A first argument's room, named. -/
theorem XCall.room {P : Program} {f : FuncId} {id size st n : Nat} {args : List AV} {H : List (Nat × Blk)} {nxt : Nat} {K : AV → List (Nat × Blk) → Nat → Prop}
    (h : ∀ c, n ≤ c → XCall P f (.sk id size st n c :: args) H nxt K) (h0 : n = 0 → XCall P f (.nils :: args) H nxt K) : XCall P f (.sl id size st n :: args) H nxt K := by
  refine ⟨fun W x vals hh hr => ?_⟩
  cases hv : vals.toList with
  | nil => rw [hv] at hr; simp [RelVs] at hr
  | cons v vs =>
    rw [hv] at hr
    simp only [RelVs, RelV] at hr
    obtain ⟨hr, hrs⟩ := hr
    rcases hr with ⟨e1, e2⟩ | ⟨b, cap, o, hl, e, hc, ho, hx⟩
    · exact (h0 e1).go W x vals hh (by rw [hv]; simp only [RelVs, RelV]; exact ⟨e2, hrs⟩)
    · exact (h cap hc).go W x vals hh (by rw [hv]; simp only [RelVs, RelV]; exact ⟨⟨b, o, hl, e, hc, ho, hx⟩, hrs⟩)

/-- An old room is a new row, of which nothing else is. -/
theorem Lev.sk {id size n c nxt : Nat} {cell : Nat → Nat → CV} {H : List (Nat × Blk)} {m : Nat} (hn : n ≤ m) (hid : lk id H = some (.rows m size cell)) :
    Lev (.sk id size 0 n c) H nxt (.sl nxt size 0 n) ((nxt, .rows n size cell) :: (id, .dead) :: H) (nxt + 1) := by
  refine ⟨fun W x v hh hr => ?_⟩
  simp only [RelV] at hr
  obtain ⟨b, o, hl, e, hc, ho, cs, ty, fr, hheap, hsz⟩ := hr
  obtain ⟨hW, hI, hlt, arr, ty', fr', hheap', hth, hns, hrs⟩ := hh.at_ hid rfl hl
  have hkid := hh.keys _ _ hid
  have hrel : BlkRel x (.rows n size cell) b := ⟨arr, ty', fr', hheap', hth, Nat.le_trans (Nat.mul_le_mul_right _ hn) hns, fun i j hi hj => hrs i j (by omega) hj⟩
  obtain ⟨s1, s2⟩ := HOk.name (hh.kill id hkid) hW hI hlt hrel (fun q r hq hlive hloc => by
    rw [lk_cons] at hq
    by_cases hcq : q = id
    · rw [if_pos hcq] at hq; cases hq; cases hlive
    · rw [if_neg hcq] at hq
      exact hcq (hh.inj _ _ _ _ b hq hid hlive rfl hloc hl))
  refine ⟨{ w := x.w, I := x.I, loc := fun i => if i = nxt then some b else x.loc i }, rfl, s1, s2, ?_⟩
  simp only [RelV]
  exact .inr ⟨b, c, o, by simp, e, hc, ho, cs, ty, fr, hheap, hsz⟩

/-- The same of an old row. -/
theorem Lev.sl {id size n nxt : Nat} {cell : Nat → Nat → CV} {H : List (Nat × Blk)} {m : Nat} (hn : n ≤ m) (hid : lk id H = some (.rows m size cell)) :
    Lev (.sl id size 0 n) H nxt (.sl nxt size 0 n) ((nxt, .rows n size cell) :: (id, .dead) :: H) (nxt + 1) := by
  refine ⟨fun W x v hh hr => ?_⟩
  simp only [RelV] at hr
  rcases hr with ⟨rfl, e⟩ | ⟨b, cap, o, hr⟩
  · have hkid := hh.keys _ _ hid
    exact ⟨x, rfl, Step.refl W x, HOk.void_ (hh.kill id hkid) rfl, by unfold RelV; exact .inl ⟨rfl, e⟩⟩
  · exact (Lev.sk hn hid).go W x v hh (by simp only [RelV]; exact ⟨b, o, hr⟩)

/-- Nothing is a new row of none. -/
theorem Lev.nils {size nxt : Nat} {cell : Nat → Nat → CV} {H : List (Nat × Blk)} : Lev .nils H nxt (.sl nxt size 0 0) ((nxt, .rows 0 size cell) :: H) (nxt + 1) := by
  refine ⟨fun W x v hh hr => ?_⟩
  simp only [RelV] at hr
  exact ⟨x, rfl, Step.refl W x, HOk.void_ hh rfl, by unfold RelV; exact .inl ⟨rfl, hr⟩⟩

/-! ### Functions that have no body -/

theorem XCall.extern {P : Program} {f : FuncId} {fn : Func} {e : Array Value → Sem Value} {args : List AV} {H : List (Nat × Blk)} {nxt : Nat} {K : AV → List (Nat × Blk) → Nat → Prop} (hf : P.funcs[f]? = some fn) (hname : (fn.name == "runtime.NumGoroutine") = false)
    (hb : fn.body.isNone = true) (hn : Extern.findNext fn = none) (he : Extern.find fn = some e)
    (h : ∀ (W : Nat → Prop) (x : Cx) (vals : Array Value), HOk W x H nxt → RelVs x args vals.toList → ∃ v r, (e vals).run P x.w = .ok v x.w ∧ K r H nxt ∧ RelV x r v) : XCall P f args H nxt K := by
  refine ⟨fun W x vals hh hr => ?_⟩
  obtain ⟨v, r, h1, h2, h3⟩ := h W x vals hh hr
  exact .inr ⟨v, x, r, H, nxt, by rw [run_callFunc_extern hf hname hb hn he, h1]; rfl, h2, Step.refl W x, hh, h3⟩

theorem XCall.overlaps {P : Program} {f : FuncId} {fn : Func} {tS tR el : TypeId} {i j size off m st n c : Nat} {H : List (Nat × Blk)} {nxt : Nat} {K : AV → List (Nat × Blk) → Nat → Prop} {cs : List AV} {k : Blk} (hf : P.funcs[f]? = some fn) (hname : (fn.name == "runtime.NumGoroutine") = false)
    (hb : fn.body.isNone = true) (hn : Extern.findNext fn = none) (he : Extern.find fn = some (Extern.SlicesOverlaps.overlaps #[tS, tS] #[tR])) (ht : tSlice P tS = some el) (hs : tSize P el = some size)
    (hij : i ≠ j) (hi : lk i H = some (.lit cs)) (hj : lk j H = some k) (hk : k.live = true) (hpos : 0 < (st + c) * size) (hoff : off ≤ cs.length) (hoffm : m * size ≠ 0) (h : K .ff H nxt) :
    XCall P f [.sa i size off m, .sk j size st n c] H nxt K := by
  refine XCall.extern hf hname hb hn he fun W x vals hh hr => ⟨.bool false, .ff, ?_, h, by simp only [RelV]⟩
  cases hv : vals.toList with
  | nil => rw [hv] at hr; simp [RelVs] at hr
  | cons a r1 =>
    cases r1 with
    | nil => rw [hv] at hr; simp [RelVs] at hr
    | cons b r2 =>
      cases r2 with
      | cons _ _ => rw [hv] at hr; simp [RelVs] at hr
      | nil =>
        rw [hv] at hr
        simp only [RelVs, RelV] at hr
        obtain ⟨⟨b1, cap1, o1, hl1, e1, hc1, ho1, cs1, ty1, fr1, hh1, hz1⟩, ⟨b2, o2, hl2, e2, hc2, ho2, cs2, ty2, fr2, hh2, hz2⟩, _⟩ := hr
        have hva : vals = #[a, b] := by apply Array.ext'; simpa using hv
        subst hva; subst e1; subst e2
        have hne : b1 ≠ b2 := fun e => hij (by subst e; exact hh.inj i j _ _ b1 hi hj rfl hk hl1 hl2)
        obtain ⟨_, _, _, arr, ty', fr', hheap', hth, hrs⟩ := hh.at_ hi rfl hl1
        rw [hh1] at hheap'
        cases hheap'
        have hlen := RelVs_length hrs
        simp only [Array.length_toList] at hlen
        have hm0 : m ≠ 0 := fun h => hoffm (by simp [h])
        have ho1' := ho1 (by omega)
        subst ho1'
        have fz : ∀ o, o ≤ cs1.size → x.w.frozen? ⟨b1, o, none⟩ = false := by
          intro o ho
          have := hth o (by omega)
          simp only [World.frozen?, hh1]
          cases e : (decide (fr1.1 ≤ o) && decide (o < fr1.2)) with
          | false => rfl
          | true =>
            simp at e
            exact absurd e this
        have hszE : ∀ w : World, (Go.sizeOf el).run P w = .ok size w := fun w => sizeOf_run hs w
        exact Lib.run_overlaps_apart x.w tS tR el (tSlice_spec ht) size hszE ⟨b1, o1, none⟩ ⟨b2, o2, none⟩ m cap1 n c hne ty1 ty2 cs1.size cs2.size
          (by simp [World.shape?, hh1]) (by simp [World.shape?, hh2]) (by omega) (fz o1 (by omega)) (fz cs1.size (Nat.le_refl _))

theorem XCall.cmp {P : Program} {f : FuncId} {fn : Func} {H : List (Nat × Blk)} {nxt : Nat} {K : AV → List (Nat × Blk) → Nat → Prop} {a b : ByteArray} (hf : P.funcs[f]? = some fn) (hname : (fn.name == "runtime.NumGoroutine") = false)
    (hb : fn.body.isNone = true) (hn : Extern.findNext fn = none) (he : Extern.find fn = some Extern.BytealgCompare.compare) (h : K (.i .i64 (Extern.BytealgCompare.cmp a b)) H nxt) :
    XCall P f [.s a, .s b] H nxt K := by
  refine XCall.extern hf hname hb hn he fun W x vals hh hr => ⟨.int .i64 (Extern.BytealgCompare.cmp a b), _, ?_, h, by simp only [RelV]⟩
  cases hv : vals.toList with
  | nil => rw [hv] at hr; simp [RelVs] at hr
  | cons p r1 =>
    cases r1 with
    | nil => rw [hv] at hr; simp [RelVs] at hr
    | cons q r2 =>
      cases r2 with
      | cons _ _ => rw [hv] at hr; simp [RelVs] at hr
      | nil =>
        rw [hv] at hr
        simp only [RelVs, RelV] at hr
        obtain ⟨rfl, rfl, _⟩ := hr
        have hva : vals = #[.string a, .string b] := by apply Array.ext'; simpa using hv
        subst hva
        show Sem.run P (do pure (goInt (Extern.BytealgCompare.cmp (← Extern.Bytes.bytesOf (.string a)) (← Extern.Bytes.bytesOf (.string b))))) x.w = _
        simp [Extern.Bytes.bytesOf, goInt]

end Go.Hb

namespace Go.Hb
open Go.RowKit
variable [Amb]

theorem BlkLe.refl : ∀ (k : Blk), k.live = true → BlkLe k k
  | .lit cs, _ => rfl
  | .rows n s c, _ => ⟨Nat.le_refl _, rfl, fun _ _ _ _ => rfl⟩
  | .dead, h => by cases h
theorem BlkLe.live {k k' : Blk} (h : BlkLe k k') : k.live = true := by
  cases k with
  | dead => exact h.elim
  | _ => rfl

theorem HOk.sub {W : Nat → Prop} {x : Cx} {H H2 : List (Nat × Blk)} {n : Nat} (h : HOk W x H n) (hs : ∀ id k, lk id H2 = some k → ∃ k1, lk id H = some k1 ∧ (k.live = true → BlkLe k1 k)) : HOk W x H2 n := by
  refine ⟨fun id k hk => ?_, fun id k hk hl => ?_, fun id id' k k' b e1 e2 l1 l2 f1 f2 => ?_, h.fresh, h.bound, h.room⟩
  · obtain ⟨k1, h1, _⟩ := hs id k hk
    exact h.keys id k1 h1
  · obtain ⟨k1, h1, h2⟩ := hs id k hk
    have hle := h2 hl
    rcases h.blk id k1 h1 hle.live with ⟨v1, v2⟩ | ⟨b, e1, e2, e3, e4, e5⟩
    · refine .inl ⟨?_, v2⟩
      cases k1 with
      | rows n s c =>
        cases k with
        | rows n' s' c' =>
          have := hle.1
          simp only [Blk.void] at v1 ⊢
          omega
        | _ => exact hle.elim
      | _ => exact v1.elim
    · exact .inr ⟨b, e1, e2, e3, e4, hle.rel e5⟩
  · obtain ⟨k1, h1, h2⟩ := hs id k e1
    obtain ⟨k1', h1', h2'⟩ := hs id' k' e2
    exact h.inj id id' k1 k1' b h1 h1' (h2 l1).live (h2' l2).live f1 f2

theorem Lev.heap {r : AV} {H H2 : List (Nat × Blk)} {n : Nat} (hs : ∀ id k, lk id H2 = some k → ∃ k1, lk id H = some k1 ∧ (k.live = true → BlkLe k1 k)) : Lev r H n r H2 n :=
  ⟨fun W x v hh hr => ⟨x, rfl, Step.refl W x, hh.sub hs, hr⟩⟩

/-- The rows on top, in other words; the rest may be given up. -/
theorem Lev.top {r : AV} {H H2 : List (Nat × Blk)} {n id : Nat} {k k2 : Blk} (hl : lk id H = some k) (hk : k2.live = true → BlkLe k k2) (hs : ∀ i q, i ≠ id → lk i H2 = some q → ∃ q1, lk i H = some q1 ∧ (q.live = true → q1 = q)) : Lev r H n r ((id, k2) :: H2) n := by
  refine Lev.heap fun i q hq => ?_
  rw [lk_cons] at hq
  by_cases hc : i = id
  · rw [if_pos hc] at hq
    cases hq
    exact ⟨k, by rw [hc]; exact hl, hk⟩
  · rw [if_neg hc] at hq
    obtain ⟨q1, h1, h2⟩ := hs i q hc hq
    exact ⟨q1, h1, fun hlv => by rw [h2 hlv]; exact BlkLe.refl _ hlv⟩

theorem Lev.top1 {r : AV} {H : List (Nat × Blk)} {n id : Nat} {k k2 : Blk} (hk : k2.live = true → BlkLe k k2) : Lev r ((id, k) :: H) n r ((id, k2) :: H) n :=
  Lev.top (by simp [lk_cons]) hk fun i q hi hq => ⟨q, by rw [lk_cons, if_neg hi]; exact hq, fun _ => rfl⟩
theorem BlkLe.rows {n m size : Nat} {c c' : Nat → Nat → CV} (hn : m ≤ n) (h : ∀ i j, i < m → j < size → c i j = c' i j) : BlkLe (.rows n size c) (.rows m size c') := ⟨hn, rfl, h⟩

/-- Ids that are passed over. -/
theorem Lev.skip {r : AV} {H : List (Nat × Blk)} {n : Nat} (k : Blk) : Lev r H n r ((n, .dead) :: (n, k) :: H) (n + 1) := by
  refine ⟨fun W x v hh hr => ?_⟩
  refine ⟨x, rfl, Step.refl W x, ⟨fun id q hq => ?_, fun id q hq hl => ?_, fun i i' q q' b h1 h2 l1 l2 e1 e2 => ?_, fun id hid => hh.fresh id (by omega), hh.bound, hh.room⟩, hr⟩
  · rw [lk_cons, lk_cons] at hq
    by_cases hc : id = n
    · omega
    · rw [if_neg hc, if_neg hc] at hq
      have := hh.keys id q hq
      omega
  · rw [lk_cons, lk_cons] at hq
    by_cases hc : id = n
    · rw [if_pos hc] at hq; cases hq; cases hl
    · rw [if_neg hc, if_neg hc] at hq; exact hh.blk id q hq hl
  · rw [lk_cons, lk_cons] at h1 h2
    by_cases c1 : i = n
    · rw [if_pos c1] at h1; cases h1; cases l1
    · by_cases c2 : i' = n
      · rw [if_pos c2] at h2; cases h2; cases l2
      · rw [if_neg c1, if_neg c1] at h1
        rw [if_neg c2, if_neg c2] at h2
        exact hh.inj i i' q q' b h1 h2 l1 l2 e1 e2

theorem XCall.weak1 {P : Program} {f : FuncId} {args : List AV} {H : List (Nat × Blk)} {nxt : Nat} {K : AV → List (Nat × Blk) → Nat → Prop} {r2 : AV} {H2 : List (Nat × Blk)} {n2 : Nat} (hK : K r2 H2 n2)
    (h : XCall P f args H nxt fun r H' n' => Lev r H' n' r2 H2 n2) : XCall P f args H nxt K :=
  h.weak fun r H' n' hl => ⟨r2, H2, n2, hK, hl⟩

end Go.Hb

namespace Go.Hb
open Go.RowKit
variable [Amb]

/-! ### Other ids -/

mutual
def rn (f : Nat → Nat) : AV → AV
  | .p id k => .p (f id) k
  | .pr id size i j => .pr (f id) size i j
  | .sl id size st n => .sl (f id) size st n
  | .sa id size off n => .sa (f id) size off n
  | .sk id size st n c => .sk (f id) size st n c
  | .agg xs => .agg (rns f xs)
  | .tup xs => .tup (rns f xs)
  | .fn g a c => .fn g (rns f a) (rns f c)
  | a => a
def rns (f : Nat → Nat) : List AV → List AV
  | [] => []
  | a :: r => rn f a :: rns f r
end
def rnB (f : Nat → Nat) : Blk → Blk
  | .lit cs => .lit (rns f cs)
  | k => k
def rnH (f : Nat → Nat) : List (Nat × Blk) → List (Nat × Blk) → List (Nat × Blk)
  | [], R => R
  | (id, k) :: r, R => (f id, rnB f k) :: rnH f r R
def dead (ids : List Nat) (H : List (Nat × Blk)) : List (Nat × Blk) :=
  match ids with
  | [] => H
  | i :: r => (i, .dead) :: dead r H
/-- The callee's ids, with us. -/
def rid (ids : List Nat) (nxt i : Nat) : Nat := match ids[i]? with
  | some j => j
  | none => nxt + (i - ids.length)

mutual
theorem rel_rn {w : World} {I : Nat → Prop} {l l' : Nat → Option Nat} {f : Nat → Nat} (hf : ∀ i b, l i = some b → l' (f i) = some b) : ∀ (a : AV) (v : Value), RelV ⟨w, I, l⟩ a v → RelV ⟨w, I, l'⟩ (rn f a) v
  | .tt, v, h => by simpa only [rn, RelV] using h
  | .ff, v, h => by simpa only [rn, RelV] using h
  | .b _, v, h => by simpa only [rn, RelV] using h
  | .i _ _, v, h => by simpa only [rn, RelV] using h
  | .s _, v, h => by simpa only [rn, RelV] using h
  | .raw _, v, h => by simpa only [rn, RelV] using h
  | .fs _ _ _, v, h => by simpa only [rn, RelV] using h
  | .nils, v, h => by simpa only [rn, RelV] using h
  | .fe _ _ _, v, h => by simpa only [rn, RelV] using h
  | .p id k, v, h => by
    simp only [rn, RelV] at h ⊢
    obtain ⟨b, e, r⟩ := h
    exact ⟨b, hf _ _ e, r⟩
  | .pr id size i j, v, h => by
    simp only [rn, RelV] at h ⊢
    obtain ⟨b, e, r⟩ := h
    exact ⟨b, hf _ _ e, r⟩
  | .sl id size st k, v, h => by
    simp only [rn, RelV] at h ⊢
    rcases h with h | ⟨b, cap, o, e, r⟩
    · exact .inl h
    · exact .inr ⟨b, cap, o, hf _ _ e, r⟩
  | .sa id size st k, v, h => by
    simp only [rn, RelV] at h ⊢
    obtain ⟨b, cap, o, e, r⟩ := h
    exact ⟨b, cap, o, hf _ _ e, r⟩
  | .sk id size st k c, v, h => by
    simp only [rn, RelV] at h ⊢
    obtain ⟨b, o, e, r⟩ := h
    exact ⟨b, o, hf _ _ e, r⟩
  | .agg xs, v, h => by
    simp only [rn, RelV] at h ⊢
    obtain ⟨vs, e, r⟩ := h
    exact ⟨vs, e, rels_rn hf xs _ r⟩
  | .tup xs, v, h => by
    simp only [rn, RelV] at h ⊢
    obtain ⟨vs, e, r⟩ := h
    exact ⟨vs, e, rels_rn hf xs _ r⟩
  | .fn g a c, v, h => by
    simp only [rn, RelV] at h ⊢
    obtain ⟨p, q, e, r1, r2⟩ := h
    exact ⟨p, q, e, rels_rn hf a _ r1, rels_rn hf c _ r2⟩
theorem rels_rn {w : World} {I : Nat → Prop} {l l' : Nat → Option Nat} {f : Nat → Nat} (hf : ∀ i b, l i = some b → l' (f i) = some b) : ∀ (as : List AV) (vs : List Value), RelVs ⟨w, I, l⟩ as vs → RelVs ⟨w, I, l'⟩ (rns f as) vs
  | [], [], _ => by simp only [rns, RelVs]
  | [], _ :: _, h => by simp [RelVs] at h
  | _ :: _, [], h => by simp [RelVs] at h
  | a :: as, v :: vs, h => by
    simp only [rns, RelVs] at h ⊢
    exact ⟨rel_rn hf a v h.1, rels_rn hf as vs h.2⟩
end

mutual
theorem rn_rel {w : World} {I : Nat → Prop} {l l' : Nat → Option Nat} {f : Nat → Nat} {n : Nat} (hf : ∀ i b, i < n → l' (f i) = some b → l i = some b) : ∀ (a : AV) (v : Value), idb n a = true → RelV ⟨w, I, l'⟩ (rn f a) v → RelV ⟨w, I, l⟩ a v
  | .tt, v, _, h => by simpa only [rn, RelV] using h
  | .ff, v, _, h => by simpa only [rn, RelV] using h
  | .b _, v, _, h => by simpa only [rn, RelV] using h
  | .i _ _, v, _, h => by simpa only [rn, RelV] using h
  | .s _, v, _, h => by simpa only [rn, RelV] using h
  | .raw _, v, _, h => by simpa only [rn, RelV] using h
  | .fs _ _ _, v, _, h => by simpa only [rn, RelV] using h
  | .nils, v, _, h => by simpa only [rn, RelV] using h
  | .fe _ _ _, v, _, h => by simpa only [rn, RelV] using h
  | .p id k, v, hi, h => by
    simp only [rn, RelV] at h ⊢
    obtain ⟨b, e, r⟩ := h
    exact ⟨b, hf _ _ (by simpa [idb] using hi) e, r⟩
  | .pr id size i j, v, hi, h => by
    simp only [rn, RelV] at h ⊢
    obtain ⟨b, e, r⟩ := h
    exact ⟨b, hf _ _ (by simpa [idb] using hi) e, r⟩
  | .sl id size st k, v, hi, h => by
    simp only [rn, RelV] at h ⊢
    rcases h with h | ⟨b, cap, o, e, r⟩
    · exact .inl h
    · exact .inr ⟨b, cap, o, hf _ _ (by simpa [idb] using hi) e, r⟩
  | .sa id size st k, v, hi, h => by
    simp only [rn, RelV] at h ⊢
    obtain ⟨b, cap, o, e, r⟩ := h
    exact ⟨b, cap, o, hf _ _ (by simpa [idb] using hi) e, r⟩
  | .sk id size st k c, v, hi, h => by
    simp only [rn, RelV] at h ⊢
    obtain ⟨b, o, e, r⟩ := h
    exact ⟨b, o, hf _ _ (by simpa [idb] using hi) e, r⟩
  | .agg xs, v, hi, h => by
    simp only [rn, RelV] at h ⊢
    obtain ⟨vs, e, r⟩ := h
    exact ⟨vs, e, rns_rel hf xs _ (by simpa [idb] using hi) r⟩
  | .tup xs, v, hi, h => by
    simp only [rn, RelV] at h ⊢
    obtain ⟨vs, e, r⟩ := h
    exact ⟨vs, e, rns_rel hf xs _ (by simpa [idb] using hi) r⟩
  | .fn g a c, v, hi, h => by
    simp only [rn, RelV] at h ⊢
    obtain ⟨p, q, e, r1, r2⟩ := h
    simp only [idb] at hi
    split at hi
    · rename_i h1
      exact ⟨p, q, e, rns_rel hf a _ h1 r1, rns_rel hf c _ hi r2⟩
    · cases hi
theorem rns_rel {w : World} {I : Nat → Prop} {l l' : Nat → Option Nat} {f : Nat → Nat} {n : Nat} (hf : ∀ i b, i < n → l' (f i) = some b → l i = some b) : ∀ (as : List AV) (vs : List Value), idbs n as = true → RelVs ⟨w, I, l'⟩ (rns f as) vs → RelVs ⟨w, I, l⟩ as vs
  | [], [], _, _ => by simp only [RelVs]
  | [], _ :: _, _, h => by simp [rns, RelVs] at h
  | _ :: _, [], _, h => by simp [rns, RelVs] at h
  | a :: as, v :: vs, hi, h => by
    simp only [rns, RelVs] at h ⊢
    simp only [idbs] at hi
    split at hi
    · rename_i h1
      exact ⟨rn_rel hf a v h1 h.1, rns_rel hf as vs hi h.2⟩
    · cases hi
end

theorem lk_dead {ids : List Nat} {H : List (Nat × Blk)} {m : Nat} : lk m (dead ids H) = if m ∈ ids then some .dead else lk m H := by
  induction ids with
  | nil => simp [dead]
  | cons i r ih =>
    simp only [dead, lk_cons, ih, List.mem_cons]
    by_cases h : m = i
    · simp [h]
    · simp [h]

theorem lk_rnH {f : Nat → Nat} {R : List (Nat × Blk)} {m : Nat} : ∀ {H : List (Nat × Blk)} {q : Blk}, (∀ i j, f i = f j → i = j) → lk m (rnH f H R) = some q → (∃ i k, f i = m ∧ lk i H = some k ∧ q = rnB f k) ∨ ((∀ i, f i = m → lk i H = none) ∧ lk m R = some q)
  | [], q, _, h => .inr ⟨fun i _ => rfl, h⟩
  | (id, k) :: H, q, hinj, h => by
    simp only [rnH, lk_cons] at h
    by_cases hc : m = f id
    · rw [if_pos hc] at h
      cases h
      exact .inl ⟨id, k, hc.symm, by simp [lk_cons], rfl⟩
    · rw [if_neg hc] at h
      rcases lk_rnH hinj h with ⟨i, k', h1, h2, h3⟩ | ⟨h1, h2⟩
      · refine .inl ⟨i, k', h1, ?_, h3⟩
        rw [lk_cons, if_neg]
        · exact h2
        · intro e; subst e; exact hc h1.symm
      · refine .inr ⟨fun i hi => ?_, h2⟩
        rw [lk_cons, if_neg]
        · exact h1 i hi
        · intro e; subst e; exact hc hi.symm

theorem idx_of_nodup {ids : List Nat} (hnd : ids.Nodup) {i j : Nat} (h : ids[i]? = some j) : ids.idxOf? j = some i := by
  rw [List.idxOf?_eq_some_iff]
  obtain ⟨hi, e⟩ := List.getElem?_eq_some_iff.1 h
  refine ⟨hi, by simpa using e, fun j' hj' e' => ?_⟩
  have := List.pairwise_iff_getElem.1 hnd j' i (by omega) hi hj'
  exact absurd (by simpa [e] using e') this

theorem rid_inj {ids : List Nat} {nxt : Nat} (hnd : ids.Nodup) (hlt : ∀ j ∈ ids, j < nxt) (i j : Nat) (h : rid ids nxt i = rid ids nxt j) : i = j := by
  unfold rid at h
  cases hi : ids[i]? with
  | some a =>
    cases hj : ids[j]? with
    | some b =>
      simp only [hi, hj] at h
      subst h
      have h1 := idx_of_nodup hnd hi
      have h2 := idx_of_nodup hnd hj
      rw [h1] at h2
      exact Option.some.inj h2
    | none =>
      simp only [hi, hj] at h
      have := hlt a (List.mem_of_getElem? hi)
      omega
  | none =>
    cases hj : ids[j]? with
    | some b =>
      simp only [hi, hj] at h
      have := hlt b (List.mem_of_getElem? hj)
      omega
    | none =>
      simp only [hi, hj] at h
      have h1 := List.getElem?_eq_none_iff.1 hi
      have h2 := List.getElem?_eq_none_iff.1 hj
      omega

/-- A call, known where the ids are few, elsewhere. -/
theorem XCall.frame {P : Program} {f : FuncId} {args0 args : List AV} {H0 H : List (Nat × Blk)} {nxt : Nat} {K0 K : AV → List (Nat × Blk) → Nat → Prop} (ids : List Nat) (h : XCall P f args0 H0 ids.length K0)
    (hargs : args = rns (rid ids nxt) args0) (hidb : idbs ids.length args0 = true) (hnd : ids.Nodup) (hlt : ∀ j ∈ ids, j < nxt)
    (hkeys : ∀ i k, lk i H0 = some k → i < ids.length) (hsub : ∀ i k, lk i H0 = some k → k.live = true → ∃ j k', ids[i]? = some j ∧ lk j H = some k' ∧ BlkLe k' k ∧ blkIds 0 k = true)
    (hK : ∀ r H' n', K0 r H' n' → ids.length ≤ n' ∧ K (rn (rid ids nxt) r) (rnH (rid ids nxt) H' (dead ids H)) (nxt + (n' - ids.length))) : XCall P f args H nxt K := by
  subst hargs
  have hinj := rid_inj (nxt := nxt) hnd hlt
  refine ⟨fun W x vals hh hr => ?_⟩
  let W0 : Nat → Prop := fun b => x.w.heap.size ≤ b ∨ ∃ i j k, ids[i]? = some j ∧ lk i H0 = some k ∧ k.live = true ∧ x.loc j = some b
  have hW0 : ∀ b, W0 b → W b := by
    rintro b (hb | ⟨i, j, k, h1, h2, h3, h4⟩)
    · exact hh.room b hb
    · obtain ⟨j', k', g1, g2, g3, g4⟩ := hsub i k h2 h3
      rw [h1] at g1
      cases g1
      exact (hh.at_ g2 g3.live h4).1
  have hh0 : HOk W0 ⟨x.w, x.I, fun i => (ids[i]?).bind x.loc⟩ H0 ids.length := by
    refine ⟨hkeys, fun id k hk hl => ?_, fun id id' k k' b e1 e2 l1 l2 f1 f2 => ?_, fun id hid => ?_, hh.bound, fun b hb => .inl hb⟩
    · obtain ⟨j, k', g1, g2, g3, g4⟩ := hsub id k hk hl
      rcases hh.blk j k' g2 g3.live with ⟨v1, v2⟩ | ⟨b, e1, e2, e3, e4, e5⟩
      · refine .inl ⟨?_, by simp only [g1, Option.bind_some]; exact v2⟩
        cases k' with
        | rows n s c =>
          cases k with
          | rows n' s' c' =>
            have := g3.1
            simp only [Blk.void] at v1 ⊢
            omega
          | _ => exact g3.elim
        | _ => exact v1.elim
      · refine .inr ⟨b, by simp only [g1, Option.bind_some]; exact e1, .inr ⟨id, j, k, g1, hk, hl, e1⟩, e3, e4, ?_⟩
        have hr := g3.rel e5
        cases k with
        | lit cs =>
          obtain ⟨arr, ty, fr, q1, q2, q3⟩ := hr
          exact ⟨arr, ty, fr, q1, q2, RelVs.cut (n := 0) (x := x) (fun id b hi => absurd hi (Nat.not_lt_zero _)) cs _ (by simpa [blkIds] using g4) q3⟩
        | rows n s c => exact hr
        | dead => cases hl
    · obtain ⟨j, k1, g1, g2, g3, g4⟩ := hsub id k e1 l1
      obtain ⟨j', k1', g1', g2', g3', g4'⟩ := hsub id' k' e2 l2
      simp only [g1, g1', Option.bind_some] at f1 f2
      have := hh.inj j j' k1 k1' b g2 g2' g3.live g3'.live f1 f2
      subst this
      have h1 := idx_of_nodup hnd g1
      have h2 := idx_of_nodup hnd g1'
      rw [h1] at h2
      exact Option.some.inj h2
    · simp only [List.getElem?_eq_none_iff.2 hid, Option.bind_none]
  have hr0 : RelVs ⟨x.w, x.I, fun i => (ids[i]?).bind x.loc⟩ args0 vals.toList := by
    refine rns_rel (l' := x.loc) (f := rid ids nxt) (n := ids.length) (fun i b hi e => ?_) args0 _ hidb hr
    have hs : ids[i]? = some ids[i] := List.getElem?_eq_getElem hi
    simp only [rid, hs] at e
    simp only [hs, Option.bind_some]
    exact e
  -- what the callee left, seen from here
  have back : ∀ (y0 : Cx) (r : AV) (H' : List (Nat × Blk)) (n' : Nat) (v : Value), ids.length ≤ n' → Step W0 ⟨x.w, x.I, fun i => (ids[i]?).bind x.loc⟩ y0 → HOk W0 y0 H' n' → RelV y0 r v →
      ∃ y : Cx, y.w = y0.w ∧ Step W x y ∧ HOk W y (rnH (rid ids nxt) H' (dead ids H)) (nxt + (n' - ids.length)) ∧ RelV y (rn (rid ids nxt) r) v := by
    intro y0 r H' n' v hn hs hok hrel
    let loc' : Nat → Option Nat := fun m => match ids.idxOf? m with
      | some i => y0.loc i
      | none => if m < nxt then x.loc m else y0.loc (m - nxt + ids.length)
    have nomem : ∀ m, m ∉ ids → ids.idxOf? m = none := fun m hm => by rw [List.idxOf?_eq_none_iff]; exact hm
    have hfw : ∀ i, loc' (rid ids nxt i) = y0.loc i := by
      intro i
      unfold rid
      cases hi : ids[i]? with
      | some j => simp only [loc', idx_of_nodup hnd hi]
      | none =>
        have h1 := List.getElem?_eq_none_iff.1 hi
        have hnm : nxt + (i - ids.length) ∉ ids := fun hm => by have := hlt _ hm; omega
        simp only [loc', nomem _ hnm]
        rw [if_neg (by omega)]
        congr 1
        omega
    have hkeep : ∀ m, m ∉ ids → m < nxt → loc' m = x.loc m := fun m hm hlt' => by simp only [loc', nomem m hm]; rw [if_pos hlt']
    have hext : Ext x ⟨y0.w, y0.I, loc'⟩ := by
      refine ⟨fun m b e => ?_, hs.ext.sub, hs.ext.kept, hs.ext.size, hs.ext.rows⟩
      by_cases hm : m ∈ ids
      · obtain ⟨i, hi⟩ := List.getElem?_of_mem hm
        simp only [loc', idx_of_nodup hnd hi]
        exact hs.ext.loc i b (by simp only [hi, Option.bind_some]; exact e)
      · have hmn : m < nxt := by
          rcases Nat.lt_or_ge m nxt with h' | h'
          · exact h'
          · rw [hh.fresh m h'] at e; cases e
        show loc' m = some b
        rw [hkeep m hm hmn]; exact e
    have hst : Step W x ⟨y0.w, y0.I, loc'⟩ := ⟨hext, hs.os, hs.tape, hs.output, fun k hk => hs.frame k fun h' => hk (hW0 k h'), fun k hk => (hs.new k hk).imp id (hW0 k)⟩
    have hrel' : RelV ⟨y0.w, y0.I, loc'⟩ (rn (rid ids nxt) r) v := rel_rn (l := y0.loc) (fun i b e => by rw [hfw]; exact e) r v hrel
    -- of the blocks
    have cases' : ∀ m q, lk m (rnH (rid ids nxt) H' (dead ids H)) = some q → q.live = true → (∃ i k, rid ids nxt i = m ∧ lk i H' = some k ∧ q = rnB (rid ids nxt) k ∧ k.live = true) ∨ (m ∉ ids ∧ m < nxt ∧ lk m H = some q) := by
      intro m q hq hl
      rcases lk_rnH hinj hq with ⟨i, k, h1, h2, h3⟩ | ⟨_, h2⟩
      · refine .inl ⟨i, k, h1, h2, h3, ?_⟩
        subst h3
        cases k <;> simp_all [rnB, Blk.live]
      · rw [lk_dead] at h2
        by_cases hm : m ∈ ids
        · rw [if_pos hm] at h2; cases h2; cases hl
        · rw [if_neg hm] at h2
          exact .inr ⟨hm, hh.keys m q h2, h2⟩
    have notW0 : ∀ m q b, m ∉ ids → lk m H = some q → q.live = true → x.loc m = some b → b < x.w.heap.size → ¬ W0 b := by
      rintro m q b hm hq hl hloc hb (h' | ⟨i, j, k, h1, h2, h3, h4⟩)
      · omega
      · obtain ⟨j', k', g1, g2, g3, g4⟩ := hsub i k h2 h3
        rw [h1] at g1
        cases g1
        have := hh.inj m j q k' b hq g2 hl g3.live hloc h4
        subst this
        exact hm (List.mem_of_getElem? h1)
    refine ⟨⟨y0.w, y0.I, loc'⟩, rfl, hst, ⟨fun m q hq => ?_, fun m q hq hl => ?_, fun m m' q q' b h1 h2 l1 l2 e1 e2 => ?_, fun m hm => ?_, hok.bound, fun b hb => hh.room b (by have := hs.ext.size; simp only at hb this ⊢; omega)⟩, hrel'⟩
    · rcases lk_rnH hinj hq with ⟨i, k, h1, h2, h3⟩ | ⟨_, h2⟩
      · have hi := hok.keys i k h2
        subst h1
        unfold rid
        cases hids : ids[i]? with
        | some j => have := hlt j (List.mem_of_getElem? hids); simp only; omega
        | none => have := List.getElem?_eq_none_iff.1 hids; simp only; omega
      · rw [lk_dead] at h2
        by_cases hm : m ∈ ids
        · have := hlt m hm; omega
        · rw [if_neg hm] at h2
          have := hh.keys m q h2
          omega
    · rcases cases' m q hq hl with ⟨i, k, h1, h2, h3, h4⟩ | ⟨hm, hmn, h2⟩
      · subst h1; subst h3
        rcases hok.blk i k h2 h4 with ⟨v1, v2⟩ | ⟨b, e1, e2, e3, e4, e5⟩
        · refine .inl ⟨by cases k <;> first | exact v1 | exact v1.elim, ?_⟩
          show loc' _ = none
          rw [hfw]; exact v2
        · refine .inr ⟨b, by show loc' _ = some b; rw [hfw]; exact e1, hW0 b e2, e3, e4, ?_⟩
          cases k with
          | lit cs =>
            obtain ⟨arr, ty, fr, q1, q2, q3⟩ := e5
            exact ⟨arr, ty, fr, q1, q2, rels_rn (l := y0.loc) (fun i b e => by rw [hfw]; exact e) cs _ q3⟩
          | rows n s c => exact e5
          | dead => trivial
      · rcases hh.blk m q h2 hl with ⟨v1, v2⟩ | ⟨b, e1, e2, e3, e4, e5⟩
        · exact .inl ⟨v1, by show loc' m = none; rw [hkeep m hm hmn]; exact v2⟩
        · have hnw := notW0 m q b hm h2 hl e1 e4
          refine .inr ⟨b, by show loc' m = some b; rw [hkeep m hm hmn]; exact e1, e2, fun hi => ?_, by have := hs.ext.size; simp only at this ⊢; omega, e5.mono hext (hs.frame b hnw)⟩
          rcases hs.new b hi with h' | h'
          · exact e3 h'
          · exact hnw h'
    · have at' : ∀ m q b, lk m (rnH (rid ids nxt) H' (dead ids H)) = some q → q.live = true → loc' m = some b → (∃ i k, rid ids nxt i = m ∧ lk i H' = some k ∧ k.live = true ∧ y0.loc i = some b ∧ W0 b) ∨ (m ∉ ids ∧ m < nxt ∧ lk m H = some q ∧ x.loc m = some b ∧ ¬ W0 b) := by
        intro m q b hq hl e
        rcases cases' m q hq hl with ⟨i, k, h1, h2, h3, h4⟩ | ⟨hm, hmn, h2⟩
        · subst h1
          rw [hfw] at e
          exact .inl ⟨i, k, rfl, h2, h4, e, (hok.at_ h2 h4 e).1⟩
        · rw [hkeep m hm hmn] at e
          exact .inr ⟨hm, hmn, h2, e, notW0 m q b hm h2 hl e (hh.at_ h2 hl e).2.2.1⟩
      rcases at' m q b h1 l1 e1 with ⟨i, k, g1, g2, g3, g4, g5⟩ | ⟨g1, g2, g3, g4, g5⟩
      · rcases at' m' q' b h2 l2 e2 with ⟨i', k', f1, f2, f3, f4, f5⟩ | ⟨f1, f2, f3, f4, f5⟩
        · rw [← g1, ← f1, hok.inj i i' k k' b g2 f2 g3 f3 g4 f4]
        · exact absurd g5 f5
      · rcases at' m' q' b h2 l2 e2 with ⟨i', k', f1, f2, f3, f4, f5⟩ | ⟨f1, f2, f3, f4, f5⟩
        · exact absurd f5 g5
        · exact hh.inj m m' q q' b g3 f3 l1 l2 g4 f4
    · have hnm : m ∉ ids := fun hmem => by have := hlt m hmem; omega
      show loc' m = none
      simp only [loc', nomem m hnm]
      rw [if_neg (by omega)]
      exact hok.fresh _ (by omega)
  rcases h.go W0 ⟨x.w, x.I, fun i => (ids[i]?).bind x.loc⟩ vals hh0 hr0 with ⟨h1, h2⟩ | ⟨v, y0, r, H', n', h1, h2, h3, h4, h5⟩
  · refine .inl ⟨h1, h2.mono fun e w' ⟨v, he, y0, r, H', n', hw, hK0, hs, hok, hrel⟩ => ?_⟩
    obtain ⟨hn, hKK⟩ := hK r H' n' hK0
    obtain ⟨y, e1, s1, k1, k2⟩ := back y0 r H' n' v hn hs hok hrel
    exact ⟨v, he, y, _, _, _, e1.trans hw, hKK, s1, k1, k2⟩
  · obtain ⟨hn, hKK⟩ := hK r H' n' h2
    obtain ⟨y, e1, s1, k1, k2⟩ := back y0 r H' n' v hn h3 h4 h5
    exact .inr ⟨v, y, _, _, _, by rw [e1]; exact h1, hKK, s1, k1, k2⟩

end Go.Hb

namespace Go.Hb
open Go.Lib

/-- Words, by their bytes. -/
def ltb (a b : ByteArray) : Bool := decide (a.data.toList < b.data.toList)

theorem bytesLess_lt : ∀ (x y : List UInt8), Op.bytesLess x y = decide (x < y)
  | [], [] => by simp [Op.bytesLess]
  | _ :: _, [] => by simp [Op.bytesLess]
  | [], _ :: _ => by simp [Op.bytesLess]
  | a :: x, b :: y => by
    rw [Op.bytesLess, bytesLess_lt x y]
    simp only [List.cons_lt_cons_iff]
    by_cases h1 : a < b <;> by_cases h2 : a = b <;> by_cases h3 : x < y <;> simp [h1, h2, h3]
theorem less_ltb (a b : ByteArray) : Op.bytesLess a.toList b.toList = ltb a b := by
  rw [bytesLess_lt, toList_data, toList_data]
  rfl
theorem eq_of_data {a b : ByteArray} (h : a.data.toList = b.data.toList) : a = b := by
  apply ByteArray.ext
  exact Array.ext' h
theorem beq_iff (a b : ByteArray) : (a.toList == b.toList) = decide (a = b) := by
  rw [toList_data, toList_data]
  by_cases h : a = b
  · simp [h]
  · simp only [h, decide_false, beq_eq_false_iff_ne]
    exact fun e => h (eq_of_data e)

theorem cmpB : ∀ (x y : List UInt8), (compareBytes x y < 0 ↔ x < y) ∧ (compareBytes x y = 0 ↔ x = y)
  | [], [] => by simp [compareBytes]
  | _ :: _, [] => by simp [compareBytes]
  | [], _ :: _ => by simp [compareBytes]
  | a :: x, b :: y => by
    obtain ⟨h1, h2⟩ := cmpB x y
    unfold compareBytes
    simp only [List.cons_lt_cons_iff, List.cons.injEq]
    by_cases e1 : a < b
    · have hne : a ≠ b := fun e => by subst e; exact UInt8.lt_irrefl _ e1
      simp [e1, hne]
    · by_cases e2 : b < a
      · have hne : a ≠ b := fun e => by subst e; exact UInt8.lt_irrefl _ e2
        simp [e1, e2, hne]
      · have : a = b := UInt8.le_antisymm (UInt8.not_lt.1 e2) (UInt8.not_lt.1 e1)
        simp [e1, e2, this, h1, h2]

theorem cmp_lt (a b : ByteArray) : (Extern.BytealgCompare.cmp a b < 0) ↔ ltb a b = true := by
  rw [cmp_eq, (cmpB _ _).1]
  simp [ltb]
theorem cmp_eq0 (a b : ByteArray) : (Extern.BytealgCompare.cmp a b = 0) ↔ a = b := by
  rw [cmp_eq, (cmpB _ _).2]
  exact ⟨eq_of_data, fun e => by rw [e]⟩

theorem ltb_irrefl (a : ByteArray) : ltb a a = false := by simp [ltb, List.lt_irrefl]
theorem ltb_trans {a b c : ByteArray} (h : ltb a b = true) (k : ltb b c = true) : ltb a c = true := by
  simp only [ltb, decide_eq_true_eq] at h k ⊢
  exact List.lt_trans h k
theorem ltb_asymm {a b : ByteArray} (h : ltb a b = true) : ltb b a = false := by
  cases e : ltb b a with
  | false => rfl
  | true => have := ltb_trans h e; rw [ltb_irrefl] at this; cases this
theorem ltb_tri (a b : ByteArray) : ltb a b = true ∨ a = b ∨ ltb b a = true := by
  simp only [ltb, decide_eq_true_eq]
  have h := cmpB a.data.toList b.data.toList
  by_cases h1 : a.data.toList < b.data.toList
  · exact .inl h1
  · by_cases h2 : b.data.toList < a.data.toList
    · exact .inr (.inr h2)
    · refine .inr (.inl (eq_of_data (List.le_antisymm ?_ ?_)))
      · exact List.not_lt.1 h2
      · exact List.not_lt.1 h1
theorem ltb_ne {a b : ByteArray} (h : ltb a b = true) : a ≠ b := fun e => by subst e; rw [ltb_irrefl] at h; cases h

end Go.Hb

namespace Go.Hb
open Go.RowKit
variable [Amb]

/-- A call whose answer is flat: what is handed over stays ours. -/
theorem XCall.lenv {P : Program} {f : FuncId} {args as0 : List AV} {v : AV} {H : List (Nat × Blk)} {nxt : Nat} {K : AV → List (Nat × Blk) → Nat → Prop} (hp : Pure P f as0 (fun r => r = v)) (hf : flat v = true)
    (h : fzs false args H fun as _ => idbs 0 as = true ∧ AVles as as0 ∧ K v H nxt) : XCall P f args H nxt K := by
  refine XCall.len ?_
  have mono : ∀ (as : List AV) (K1 K2 : List AV → List (Nat × Blk) → Prop) (H : List (Nat × Blk)), (∀ a b, K1 a b → K2 a b) → fzs false as H K1 → fzs false as H K2 := by
    intro as K1 K2 H hk h
    obtain ⟨a', H', hK, _⟩ := fzs_sound (W := fun _ => True) as H K1 h
    exact fzs_mono false as H K1 K2 hk h
  exact mono _ _ _ _ (fun as _ ⟨h1, h2, h3⟩ => ⟨_, hp.args h2, h1, fun r hr => by subst hr; exact ⟨hf, h3⟩⟩) h

/-- A call: what is handed over is given up. -/
theorem XCall.givv {P : Program} {f : FuncId} {args as0 : List AV} {v : AV} {H : List (Nat × Blk)} {nxt : Nat} {K : AV → List (Nat × Blk) → Nat → Prop} (hp : Pure P f as0 (fun r => r = v))
    (h : fzs true args H fun as H' => idbs 0 as = true ∧ AVles as as0 ∧ K v H' nxt) : XCall P f args H nxt K := by
  refine XCall.giv ?_
  exact fzs_mono true _ _ _ _ (fun as _ ⟨h1, h2, h3⟩ => ⟨_, hp.args h2, h1, fun r hr => by subst hr; exact h3⟩) h

/-- A slot's number. -/
def num (t : Nat) (σ : St) : Int := match lk t σ.env with
  | some (.i _ z) => z
  | _ => 0

theorem wrap_nat {n : Nat} (h : n < 9223372036854775808) : IntKind.i64.wrap (n : Int) = n := by rw [IntKind.wrap_i64]; omega
theorem wrap_int {n : Int} (h1 : -9223372036854775808 ≤ n) (h2 : n < 9223372036854775808) : IntKind.i64.wrap n = n := by rw [IntKind.wrap_i64]; omega

def Gives (r : AV) (H : List (Nat × Blk)) (n : Nat) : AV → List (Nat × Blk) → Nat → Prop := fun r' H' n' => r' = r ∧ H' = H ∧ n' = n

/-- A call that is handed data, and makes things that are ours. -/
theorem XCall.frame0 {P : Program} {f : FuncId} {args args0 : List AV} {H0 H : List (Nat × Blk)} {n nxt : Nat} {r : AV} {K : AV → List (Nat × Blk) → Nat → Prop} (h : XCall P f args0 [] 0 (Gives r H0 n))
    (ha : args = rns (rid [] nxt) args0) (hi : idbs 0 args0 = true) (hK : K (rn (rid [] nxt) r) (rnH (rid [] nxt) H0 H) (nxt + n)) : XCall P f args H nxt K := by
  refine XCall.frame [] h ha hi List.nodup_nil (fun j h => by cases h) (fun i k h => by simp [lk] at h) (fun i k h => by simp [lk] at h) ?_
  rintro r' H' n' ⟨rfl, rfl, rfl⟩
  exact ⟨Nat.zero_le _, hK⟩
theorem AVle.fs0 {n size : Nat} {c : Nat → Nat → CV} : AVle (.fs n size fun i j => c (0 + i) j) (.fs n size c) := AVle.fs fun i j _ _ => by rw [Nat.zero_add]
theorem Lev.raise {r : AV} {H : List (Nat × Blk)} {n m : Nat} (h : n ≤ m) : Lev r H n r H m :=
  ⟨fun W x v hh hr => ⟨x, rfl, Step.refl W x, ⟨fun id k hk => Nat.lt_of_lt_of_le (hh.keys id k hk) h, hh.blk, hh.inj, fun id hid => hh.fresh id (Nat.le_trans h hid), hh.bound, hh.room⟩, hr⟩⟩
/-- All but one block is given up. -/
theorem Lev.one {r : AV} {H : List (Nat × Blk)} {n id : Nat} {k1 k : Blk} (hl : lk id H = some k1) (hk : BlkLe k1 k) : Lev r H n r [(id, k)] n :=
  Lev.heap fun i q hq => by
    rw [lk_cons] at hq
    by_cases hc : i = id
    · rw [if_pos hc] at hq
      cases hq
      exact ⟨k1, by rw [hc]; exact hl, fun _ => hk⟩
    · rw [if_neg hc] at hq
      simp [lk] at hq
theorem Lev.none {r : AV} {H : List (Nat × Blk)} {n : Nat} : Lev r H n r [] n := Lev.heap fun i q hq => by simp [lk] at hq

theorem Seen.step {W : Nat → Prop} {x y : Cx} {H H' : List (Nat × Blk)} {nxt : Nat} {kill : Bool} (g : Seen W kill x y H H' nxt) : Step W x y :=
  ⟨g.ext, by rw [g.w], by rw [g.w], by rw [g.w], fun k _ => by rw [g.w], fun k hk => (g.new k hk).imp id fun e => e.1⟩

/-- A part is given up to be data. -/
theorem Lev.fz2 {a b c r2 : AV} {H H2 : List (Nat × Blk)} {n n2 : Nat} (h : fz true b H fun b' H' => Lev (.tup [.agg [a, b'], c]) H' n r2 H2 n2) : Lev (.tup [.agg [a, b], c]) H n r2 H2 n2 := by
  obtain ⟨b', H', hK, _⟩ := fz_sound (W := fun _ => True) b H _ h
  refine ⟨fun W x v hh hr => ?_⟩
  obtain ⟨b', H', hK, hs⟩ := fz_sound (W := W) b H _ h
  simp only [RelV] at hr
  obtain ⟨vs, rfl, hr⟩ := hr
  cases hv : vs.toList with
  | nil => rw [hv] at hr; simp [RelVs] at hr
  | cons p r1 =>
    cases r1 with
    | nil => rw [hv] at hr; simp [RelVs] at hr
    | cons q r3 =>
      cases r3 with
      | cons _ _ => rw [hv] at hr; simp [RelVs] at hr
      | nil =>
        rw [hv] at hr
        simp only [RelVs, RelV] at hr
        obtain ⟨⟨us, rfl, hr1⟩, hr2, _⟩ := hr
        cases hu : us.toList with
        | nil => rw [hu] at hr1; simp [RelVs] at hr1
        | cons s t1 =>
          cases t1 with
          | nil => rw [hu] at hr1; simp [RelVs] at hr1
          | cons t t3 =>
            cases t3 with
            | cons _ _ => rw [hu] at hr1; simp [RelVs] at hr1
            | nil =>
              rw [hu] at hr1
              simp only [RelVs] at hr1
              obtain ⟨h1, h2, _⟩ := hr1
              obtain ⟨y, g, hb'⟩ := hs x t n hh h2
              obtain ⟨z, e1, s1, k1, k2⟩ := hK.go W y (.tuple vs) (g.ok rfl) (by
                simp only [RelV]
                refine ⟨vs, rfl, ?_⟩
                rw [hv]
                simp only [RelVs, RelV]
                refine ⟨⟨us, rfl, ?_⟩, RelV.mono g.ext _ _ hr2, trivial⟩
                rw [hu]
                simp only [RelVs]
                exact ⟨RelV.mono g.ext _ _ h1, hb', trivial⟩)
              exact ⟨z, e1.trans g.w, g.step.trans s1, k1, k2⟩
theorem XCall.wargs {P : Program} {f : FuncId} {args args' : List AV} {H : List (Nat × Blk)} {nxt : Nat} {K : AV → List (Nat × Blk) → Nat → Prop} (ha : AVles args args') (h : XCall P f args' H nxt K) : XCall P f args H nxt K :=
  ⟨fun W x vals hh hr => h.go W x vals hh (ha x _ hr)⟩
end Go.Hb

namespace Go.Hb
variable [Amb]

/-- A call that is handed one block of ours. -/
theorem XCall.frame1 {P : Program} {f : FuncId} {args args0 : List AV} {k0 k0' : Blk} {H H1 : List (Nat × Blk)} {n nxt : Nat} {r : AV} {K : AV → List (Nat × Blk) → Nat → Prop} (a : Nat) (h : XCall P f args0 [(0, k0)] 1 (Gives r H1 n))
    (ha : args = rns (rid [a] nxt) args0) (hi : idbs 1 args0 = true) (h1 : a < nxt) (hn : 1 ≤ n) (l0 : lk a H = some k0') (b0 : BlkLe k0' k0) (i0 : blkIds 0 k0 = true)
    (hK : K (rn (rid [a] nxt) r) (rnH (rid [a] nxt) H1 (dead [a] H)) (nxt + (n - 1))) : XCall P f args H nxt K := by
  refine XCall.frame [a] h ha hi (List.nodup_cons.2 ⟨by simp, List.nodup_nil⟩) (by simpa using h1) (fun i k h => ?_) (fun i k h _ => ?_) ?_
  · rw [lk_cons] at h
    by_cases hc : i = 0
    · simp [hc]
    · rw [if_neg hc] at h; simp [lk] at h
  · rw [lk_cons] at h
    by_cases hc : i = 0
    · subst hc
      simp at h
      subst h
      exact ⟨a, k0', rfl, l0, b0, i0⟩
    · rw [if_neg hc] at h; simp [lk] at h
  · rintro r' H' n' ⟨rfl, rfl, rfl⟩
    exact ⟨hn, hK⟩

/-- A call that is handed two blocks of ours. -/
theorem XCall.frame2 {P : Program} {f : FuncId} {args args0 : List AV} {k0 k0' k1 k1' : Blk} {H H1 : List (Nat × Blk)} {n nxt : Nat} {r : AV} {K : AV → List (Nat × Blk) → Nat → Prop} (a b : Nat) (h : XCall P f args0 [(0, k0), (1, k1)] 2 (Gives r H1 n))
    (ha : args = rns (rid [a, b] nxt) args0) (hi : idbs 2 args0 = true) (hab : a ≠ b) (h1 : a < nxt) (h2 : b < nxt) (hn : 2 ≤ n) (l0 : lk a H = some k0') (b0 : BlkLe k0' k0) (i0 : blkIds 0 k0 = true) (l1 : lk b H = some k1') (b1 : BlkLe k1' k1) (i1 : blkIds 0 k1 = true)
    (hK : K (rn (rid [a, b] nxt) r) (rnH (rid [a, b] nxt) H1 (dead [a, b] H)) (nxt + (n - 2))) : XCall P f args H nxt K := by
  refine XCall.frame [a, b] h ha hi (by simp [hab]) (fun j hj => ?_) (fun i k h => ?_) (fun i k h _ => ?_) ?_
  · simp at hj
    rcases hj with rfl | rfl
    · exact h1
    · exact h2
  · rw [lk_cons, lk_cons] at h
    by_cases hc : i = 0
    · simp [hc]
    · rw [if_neg hc] at h
      by_cases hc1 : i = 1
      · simp [hc1]
      · rw [if_neg hc1] at h; simp [lk] at h
  · rw [lk_cons, lk_cons] at h
    by_cases hc : i = 0
    · subst hc
      simp at h
      subst h
      exact ⟨a, k0', rfl, l0, b0, i0⟩
    · rw [if_neg hc] at h
      by_cases hc1 : i = 1
      · subst hc1
        simp at h
        subst h
        exact ⟨b, k1', rfl, l1, b1, i1⟩
      · rw [if_neg hc1] at h; simp [lk] at h
  · rintro r' H' n' ⟨rfl, rfl, rfl⟩
    exact ⟨hn, hK⟩

end Go.Hb

namespace Go.Hb
variable [Amb]
/-- A nil slice, seen as no rows of our own. -/
theorem Le.nils {B t size : Nat} {cell : Nat → Nat → CV} {env : List (Nat × AV)} {H : List (Nat × Blk)} {nxt : Nat} (h : lk t env = some .nils) :
    Le B ⟨env, H, nxt⟩ ⟨(t, .sl nxt size 0 0) :: env, (nxt, .rows 0 size cell) :: H, nxt + 1⟩ := by
  intro W x0 N a w hx0 ⟨x, hw, h1, h2, h3, h4, h5⟩
  refine ⟨x, hw, h1, HOk.void_ h2 rfl, fun t' v hv => ?_, h4, h5⟩
  rw [lk_cons] at hv
  by_cases hc : t' = t
  · rw [if_pos hc] at hv
    cases hv
    subst hc
    obtain ⟨u, hu, hr⟩ := h3 t' _ h
    simp only [RelV] at hr
    exact ⟨u, hu, by unfold RelV; exact .inl ⟨rfl, hr⟩⟩
  · rw [if_neg hc] at hv
    exact h3 t' v hv
/-- An empty slice of our own, seen as rows. -/
theorem Le.sa0 {B t size id : Nat} {cell : Nat → Nat → CV} {env : List (Nat × AV)} {H : List (Nat × Blk)} {nxt : Nat} (h : lk t env = some (.sa id size 0 0)) (hk : lk id H = some (.lit [])) :
    Le B ⟨env, H, nxt⟩ ⟨(t, .sl id size 0 0) :: env, (id, .rows 0 size cell) :: H, nxt⟩ := by
  intro W x0 N a w hx0 ⟨x, hw, h1, h2, h3, h4, h5⟩
  refine ⟨x, hw, h1, HOk.sub h2 fun i k hi => ?_, fun t' v hv => ?_, h4, h5⟩
  · rw [lk_cons] at hi
    by_cases hc : i = id
    · rw [if_pos hc] at hi
      cases hi
      exact ⟨_, by rw [hc]; exact hk, fun _ => show BlkLe (.lit []) (.rows 0 size cell) from ⟨[], rfl, by simp, fun i j h => absurd h (Nat.not_lt_zero _)⟩⟩
    · rw [if_neg hc] at hi
      refine ⟨k, hi, fun hl => BlkLe.refl k hl⟩
  rw [lk_cons] at hv
  by_cases hc : t' = t
  · rw [if_pos hc] at hv
    cases hv
    subst hc
    obtain ⟨u, hu, hr⟩ := h3 t' _ h
    simp only [RelV] at hr
    obtain ⟨b, cap, o, q1, q2, q3, q4, q5⟩ := hr
    exact ⟨u, hu, by unfold RelV; exact .inr ⟨b, cap, o, q1, q2, q3, by simpa using q4, by simpa using q5⟩⟩
  · rw [if_neg hc] at hv
    exact h3 t' v hv

/-- Two ids change places. -/
def sw (k j i : Nat) : Nat := match Nat.beq i k with
  | true => j
  | false => match Nat.beq i j with
    | true => k
    | false => i
theorem sw_k (k j : Nat) : sw k j k = j := by simp [sw]
theorem sw_eq (k j i : Nat) : sw k j i = if i = k then j else if i = j then k else i := by
  unfold sw
  cases h : Nat.beq i k with
  | true => rw [if_pos (Nat.eq_of_beq_eq_true h)]
  | false =>
    rw [if_neg (Nat.ne_of_beq_eq_false h)]
    cases h2 : Nat.beq i j with
    | true => rw [if_pos (Nat.eq_of_beq_eq_true h2)]
    | false => rw [if_neg (Nat.ne_of_beq_eq_false h2)]
theorem sw_sw (k j i : Nat) : sw k j (sw k j i) = i := by
  rw [sw_eq, sw_eq]
  by_cases h : i = k
  · subst h
    rw [if_pos rfl]
    by_cases h2 : j = i
    · rw [if_pos h2, h2]
    · rw [if_neg h2, if_pos rfl]
  · rw [if_neg h]
    by_cases h2 : i = j
    · subst h2
      rw [if_pos rfl, if_pos rfl]
    · rw [if_neg h2, if_neg h, if_neg h2]
def swE (k j : Nat) (env : List (Nat × AV)) : List (Nat × AV) := env.map fun q => (q.1, rn (sw k j) q.2)
def swH (k j : Nat) (H : List (Nat × Blk)) : List (Nat × Blk) := H.map fun q => (sw k j q.1, rnB (sw k j) q.2)
theorem lk_swE {k j : Nat} {env : List (Nat × AV)} {t : Nat} : lk t (swE k j env) = (lk t env).map (rn (sw k j)) := by
  induction env with
  | nil => simp [lk, swE]
  | cons q r ih =>
    obtain ⟨a, v⟩ := q
    simp only [swE, List.map_cons] at ih ⊢
    rw [lk_cons, lk_cons]
    by_cases h : t = a
    · rw [if_pos h, if_pos h]; rfl
    · rw [if_neg h, if_neg h, ih]
theorem lk_swH {k j : Nat} {H : List (Nat × Blk)} {t : Nat} : lk t (swH k j H) = (lk (sw k j t) H).map (rnB (sw k j)) := by
  induction H with
  | nil => simp [lk, swH]
  | cons q r ih =>
    obtain ⟨a, v⟩ := q
    simp only [swH, List.map_cons] at ih ⊢
    rw [lk_cons, lk_cons]
    by_cases h : t = sw k j a
    · rw [if_pos h, h, sw_sw, if_pos rfl]; rfl
    · rw [if_neg h, if_neg (fun e => h (by rw [← e, sw_sw])), ih]
theorem rnB_live {f : Nat → Nat} {k : Blk} : (rnB f k).live = k.live := by cases k <;> rfl
theorem Le.swap {B : Nat} {σ : St} (k j : Nat) (hk : B ≤ k) (hj : B ≤ j) (hkn : k < σ.nxt) (hjn : j < σ.nxt) : Le B σ ⟨swE k j σ.env, swH k j σ.H, σ.nxt⟩ := by
  intro W x0 N a w hx0 ⟨x, hw, h1, h2, h3, h4, h5⟩
  have hf : ∀ i b, x.loc i = some b → (fun i => x.loc (sw k j i)) (sw k j i) = some b := fun i b e => by simpa only [sw_sw] using e
  have hlow : ∀ i, i < B → sw k j i = i := fun i hi => by rw [sw_eq, if_neg (by omega), if_neg (by omega)]
  have hlt : ∀ i, i < σ.nxt → sw k j i < σ.nxt := fun i hi => by
    rw [sw_eq]
    by_cases c1 : i = k
    · rw [if_pos c1]; exact hjn
    · rw [if_neg c1]
      by_cases c2 : i = j
      · rw [if_pos c2]; exact hkn
      · rw [if_neg c2]; exact hi
  refine ⟨⟨x.w, x.I, fun i => x.loc (sw k j i)⟩, hw, ⟨⟨fun id b e => ?_, h1.ext.sub, h1.ext.kept, h1.ext.size, h1.ext.rows⟩, h1.os, h1.tape, h1.output, h1.frame, h1.new⟩, ⟨fun id q hq => ?_, fun id q hq hl => ?_, fun id id' q q' b e1 e2 l1 l2 f1 f2 => ?_, fun id hid => ?_, h2.bound, h2.room⟩, fun t v hv => ?_, h4, h5⟩
  · simp only
    rw [hlow id (hx0 id b e)]
    exact h1.ext.loc id b e
  · simp only [lk_swH, Option.map_eq_some_iff] at hq
    obtain ⟨q0, hq0, rfl⟩ := hq
    have := hlt _ (h2.keys _ _ hq0)
    rwa [sw_sw] at this
  · simp only [lk_swH, Option.map_eq_some_iff] at hq
    obtain ⟨q0, hq0, rfl⟩ := hq
    rw [rnB_live] at hl
    rcases h2.blk _ _ hq0 hl with ⟨g1, g2⟩ | ⟨b, g1, g2, g3, g4, g5⟩
    · refine .inl ⟨?_, g2⟩
      cases q0 <;> first | exact g1 | exact g1.elim
    · refine .inr ⟨b, g1, g2, g3, g4, ?_⟩
      cases q0 with
      | lit cs =>
        obtain ⟨arr, ty, fr, p1, p2, p3⟩ := g5
        exact ⟨arr, ty, fr, p1, p2, rels_rn (f := sw k j) hf _ _ p3⟩
      | rows n s c => exact g5
      | dead => cases hl
  · simp only [lk_swH, Option.map_eq_some_iff] at e1 e2
    obtain ⟨q0, hq0, rfl⟩ := e1
    obtain ⟨q1, hq1, rfl⟩ := e2
    rw [rnB_live] at l1 l2
    have := h2.inj _ _ _ _ b hq0 hq1 l1 l2 f1 f2
    have e := congrArg (sw k j) this
    rwa [sw_sw, sw_sw] at e
  · have hid' : σ.nxt ≤ id := hid
    simp only
    rw [show sw k j id = id by rw [sw_eq, if_neg (by omega), if_neg (by omega)]]
    exact h2.fresh id hid'
  · simp only [lk_swE, Option.map_eq_some_iff] at hv
    obtain ⟨v0, hv0, rfl⟩ := hv
    obtain ⟨u, hu, hr⟩ := h3 t v0 hv0
    exact ⟨u, hu, rel_rn (f := sw k j) hf _ _ hr⟩
theorem brk.mk {x : Bool} {A B : Prop} (h : x = true → A) (k : x = false → B) : brk x A B := ⟨h, k⟩
theorem loop.mk {P : Program} {c : MC} {σ : St} {K : MX → St → Prop} (I : St → Prop) (μ : St → Nat) (h0 : ∃ σc, Le σ.nxt σ σc ∧ I σc) (h : ∀ σ', I σ' → awp P c σ' fun e σ'' => match e with
    | .normal => ∃ σc, Le σ.nxt σ'' σc ∧ I σc ∧ μ σc < μ σ'
    | e => K e σ'') : awp P (.loop c) σ K := ⟨I, μ, h0, h⟩
/-- A slot's value, in other words. -/
theorem Le.lev {B t : Nat} {r r' : AV} {env : List (Nat × AV)} {H H' : List (Nat × Blk)} {nxt n' : Nat} (h : lk t env = some r) (hl : Lev r H nxt r' H' n') : Le B ⟨env, H, nxt⟩ ⟨(t, r') :: env, H', n'⟩ := by
  intro W x0 N a w hx0 ⟨x, hw, h1, h2, h3, h4, h5⟩
  obtain ⟨u, hu, hr⟩ := h3 t _ h
  obtain ⟨y, e1, s1, k1, k2⟩ := hl.go W x u h2 hr
  refine ⟨y, e1.trans hw, h1.trans s1, k1, fun t' v hv => ?_, h4, h5⟩
  rw [lk_cons] at hv
  by_cases hc : t' = t
  · rw [if_pos hc] at hv
    cases hv
    exact ⟨u, by rw [hc]; exact hu, k2⟩
  · rw [if_neg hc] at hv
    exact EnvOk.mono s1.ext h3 t' v hv
/-- A row of our own that is written out, seen as rows. -/
theorem Lev.sa {id size n nxt : Nat} {cell : Nat → Nat → CV} {H : List (Nat × Blk)} {cs : List AV} (hid : lk id H = some (.lit cs)) (hb : BlkLe (.lit cs) (.rows n size cell)) :
    Lev (.sa id size 0 n) H nxt (.sl nxt size 0 n) ((nxt, .rows n size cell) :: (id, .dead) :: H) (nxt + 1) := by
  refine ⟨fun W x v hh hr => ?_⟩
  simp only [RelV] at hr
  obtain ⟨b, c, o, hl, e, hc, ho, hx⟩ := hr
  obtain ⟨hW, hI, hlt, hrel0⟩ := hh.at_ hid rfl hl
  have hkid := hh.keys _ _ hid
  have hrel : BlkRel x (.rows n size cell) b := hb.rel hrel0
  obtain ⟨s1, s2⟩ := HOk.name (hh.kill id hkid) hW hI hlt hrel (fun q r hq hlive hloc => by
    rw [lk_cons] at hq
    by_cases hcq : q = id
    · rw [if_pos hcq] at hq; cases hq; cases hlive
    · rw [if_neg hcq] at hq
      exact hcq (hh.inj _ _ _ _ b hq hid hlive rfl hloc hl))
  refine ⟨{ w := x.w, I := x.I, loc := fun i => if i = nxt then some b else x.loc i }, rfl, s1, s2, ?_⟩
  simp only [RelV]
  exact .inr ⟨b, c, o, by simp, e, hc, by simpa using ho, by simpa using hx⟩
theorem BlkLe.none {size : Nat} {cell : Nat → Nat → CV} : BlkLe (.lit []) (.rows 0 size cell) := ⟨[], rfl, by simp, fun i j h => absurd h (Nat.not_lt_zero _)⟩
end Go.Hb

namespace Go.Hb
variable [Amb]

/-! ### Where code goes on: words that nothing unfolds by itself -/

inductive Sq (P : Program) (b : MC) (K : MX → St → Prop) : MX → St → Prop
  | nx {σ : St} : awp P b σ K → Sq P b K .normal σ
  | ex {i : Nat} {σ : St} : K (.exit i) σ → Sq P b K (.exit i) σ
  | rt {σ : St} : K .ret σ → Sq P b K .ret σ
theorem seq.mk {P : Program} {a b : MC} {σ : St} {K : MX → St → Prop} (h : awp P a σ (Sq P b K)) : awp P (.seq a b) σ K := by
  have e : Sq P b K = fun e σ' => match e with
    | .normal => awp P b σ' K
    | e => K e σ' := by
    funext e σ'
    cases e with
    | normal => exact propext ⟨fun h => by cases h; assumption, fun h => .nx h⟩
    | exit i => exact propext ⟨fun h => by cases h; assumption, fun h => .ex h⟩
    | ret => exact propext ⟨fun h => by cases h; assumption, fun h => .rt h⟩
  rw [e] at h
  exact h

inductive Bq (id : Nat) (K : MX → St → Prop) : MX → St → Prop
  | nx {σ : St} : K .normal σ → Bq id K .normal σ
  | hit {i : Nat} {σ : St} : Nat.beq i id = true → K .normal σ → Bq id K (.exit i) σ
  | miss {i : Nat} {σ : St} : Nat.beq i id = false → K (.exit i) σ → Bq id K (.exit i) σ
  | rt {σ : St} : K .ret σ → Bq id K .ret σ
theorem blk.mk {P : Program} {id : Nat} {c : MC} {σ : St} {K : MX → St → Prop} (h : awp P c σ (Bq id K)) : awp P (.block id c) σ K := by
  have e : Bq id K = fun e σ' => match e with
    | .exit i => (match Nat.beq i id with
      | true => K .normal σ'
      | false => K (.exit i) σ')
    | e => K e σ' := by
    funext e σ'
    cases e with
    | normal => exact propext ⟨fun h => by cases h; assumption, fun h => .nx h⟩
    | exit i =>
      refine propext ⟨fun h => ?_, fun h => ?_⟩
      · cases h with
        | hit hi h => simp only [hi]; exact h
        | miss hi h => simp only [hi]; exact h
      · cases hi : Nat.beq i id with
        | true => simp only [hi] at h; exact .hit hi h
        | false => simp only [hi] at h; exact .miss hi h
    | ret => exact propext ⟨fun h => by cases h; assumption, fun h => .rt h⟩
  rw [e] at h
  exact h

/-- Round again: to a state in which I holds, with less left. -/
inductive Lq (B : Nat) (I : St → Prop) (μ : St → Nat) (m : Nat) (K : MX → St → Prop) : MX → St → Prop
  | nx {σ : St} (σc : St) : Le B σ σc → I σc → μ σc < m → Lq B I μ m K .normal σ
  | ex {i : Nat} {σ : St} : K (.exit i) σ → Lq B I μ m K (.exit i) σ
  | rt {σ : St} : K .ret σ → Lq B I μ m K .ret σ
theorem lp.mk {P : Program} {c : MC} {σ : St} {K : MX → St → Prop} (I : St → Prop) (μ : St → Nat) (h0 : ∃ σc, Le σ.nxt σ σc ∧ I σc) (h : ∀ σ', I σ' → awp P c σ' (Lq σ.nxt I μ (μ σ') K)) : awp P (.loop c) σ K := by
  refine ⟨I, μ, h0, fun σ' hI => ?_⟩
  have e : Lq σ.nxt I μ (μ σ') K = fun e σ'' => match e with
    | .normal => ∃ σc, Le σ.nxt σ'' σc ∧ I σc ∧ μ σc < μ σ'
    | e => K e σ'' := by
    funext e σ''
    cases e with
    | normal => exact propext ⟨fun h => by cases h with | nx σc h1 h2 h3 => exact ⟨σc, h1, h2, h3⟩, fun ⟨σc, h1, h2, h3⟩ => .nx σc h1 h2 h3⟩
    | exit i => exact propext ⟨fun h => by cases h; assumption, fun h => .ex h⟩
    | ret => exact propext ⟨fun h => by cases h; assumption, fun h => .rt h⟩
  have := h σ' hI
  rw [e] at this
  exact this

inductive Rq (rs : List MR) (K : AV → List (Nat × Blk) → Nat → Prop) : MX → St → Prop
  | rt {σ : St} : (rget σ.env σ.H rs fun vs => K (rres vs) σ.H σ.nxt) → Rq rs K .ret σ
  | nx {σ : St} : (rget σ.env σ.H rs fun vs => K (rres vs) σ.H σ.nxt) → Rq rs K .normal σ
theorem XCall.bodyq {P : Program} {f : FuncId} {N : Nat} {mc : MC} {rs : List MR} {args : List AV} {H : List (Nat × Blk)} {nxt : Nat} {K : AV → List (Nat × Blk) → Nat → Prop} (hf : FnIs P f N mc rs) (hn : Nat.ble args.length N = true)
    (h : awp P mc { env := enumEnv 0 args, H := H, nxt := nxt } (Rq rs K)) : XCall P f args H nxt K := by
  refine XCall.body hf hn ?_
  have e : Rq rs K = fun e σ => match e with
      | .exit _ => False
      | _ => rget σ.env σ.H rs fun vs => K (rres vs) σ.H σ.nxt := by
    funext e σ'
    cases e with
    | normal => exact propext ⟨fun h => by cases h; assumption, fun h => .nx h⟩
    | exit i => exact propext ⟨fun h => (by cases h), fun h => h.elim⟩
    | ret => exact propext ⟨fun h => by cases h; assumption, fun h => .rt h⟩
  rw [e] at h
  exact h
end Go.Hb

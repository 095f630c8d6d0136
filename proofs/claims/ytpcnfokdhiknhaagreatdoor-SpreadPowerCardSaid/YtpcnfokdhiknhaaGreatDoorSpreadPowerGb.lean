/-
  Parts of the proof: no statement of the seat is proved here.
-/
import Derived.Test.YtpcnfokdhiknhaaGreatDoorSpreadPowerGa
import Derived.Lib.ConvBytes
import Derived.Orders
set_option linter.unusedSimpArgs false
set_option linter.unusedVariables false
set_option linter.unusedSectionVars false

namespace Go.Hb
open Go.RowKit
variable [Amb]

section
variable {P : Program} {W : Nat → Prop} {σ : St} {K : AV → St → Prop} {o : Oper}

/-- What append does with such a source. -/
structure ASrc (P : Program) (w : World) (t t2 ty el : TypeId) (ti : TypeInfo) (z : Value) (size : Nat) (sv : Value) (m : Nat) (nl : List Value) : Prop where
  len : nl.length = m * size
  one : ∀ v ∈ nl, v.oneCell' = true
  room : ∀ (b o n cap : Nat) (w' : World), n + m ≤ cap → (storeCells ⟨b, o + n * size, none⟩ nl).run P w = .ok () w' → (Builtin.append_ #[t, t2] ty #[.slice (some ⟨b, o, none⟩) n cap, sv]).run P w = .ok (.slice (some ⟨b, o, none⟩) (n + m) cap) w'
  non : m = 0 → (Builtin.append_ #[t, t2] ty #[.slice none 0 0, sv]).run P w = .ok (.slice none 0 0) w
  grow : ∀ (base : Option Addr) (n cap : Nat) (ol : List Value), (∀ w' : World, w'.heap = w.heap → (Builtin.firstCells size n (.slice base n cap)).run P w' = .ok ol.toArray w') → cap < n + m → (n + m) * ti.bytes ≤ 140737488355328 →
    (Builtin.append_ #[t, t2] ty #[.slice base n cap, sv]).run P w = .ok (.slice (some ⟨w.heap.size, 0, none⟩) (n + m) (grownCap w (n + m) cap el))
      (w.drew.alloc (.cells (ol.toArray ++ nl.toArray ++ Builtin.zeroCells z.cells (grownCap w (n + m) cap el - (n + m))) el))

theorem SrcOk.asrc {t t2 ty el : TypeId} {ti : TypeInfo} {z : Value} {size : Nat} {w : World} {sv : Value} {m : Nat} {nl : List Value} (ht : P.underlying t = some (.slice el)) (ht2 : P.underlying t2 = some .string ∨ ∃ e2, P.underlying t2 = some (.slice e2))
    (hi : P.info? el = some ti) (hz : ti.zero = some z) (hsz : ti.size = size) (hb1 : 1 ≤ ti.bytes) (h : SrcOk P w size sv m nl) : ASrc P w t t2 ty el ti z size sv m nl :=
  ⟨h.2.2.1, h.2.2.2, fun b o n cap w' hg hst => append_room ht ht2 hi hsz h hg hst, fun hm => by subst hm; exact append_none ht ht2 hi hsz h, fun base n cap ol hold hg hb => append_grow ht ht2 hi hz hsz w hold h hg hb1 hb⟩

theorem zsrc {t t2 ty el : TypeId} {ti : TypeInfo} {z : Value} {size : Nat} {w : World} {k kn : IntKind} {m : Nat} (ht : P.underlying t = some (.slice el)) (ht2 : P.underlying t2 = some (.int kn))
    (hi : P.info? el = some ti) (hz : ti.zero = some z) (hsz : ti.size = size) (hzsz : z.cells.size = size) (hb1 : 1 ≤ ti.bytes) (hmb : m * ti.bytes ≤ 140737488355328) (h1 : ∀ v ∈ z.cells.toList, v.oneCell' = true) :
    ASrc P w t t2 ty el ti z size (.int k (m : Int)) m (Builtin.zeroCells z.cells m).toList := by
  subst hsz
  have hm : m ≤ 140737488355328 := Nat.le_trans (Nat.le_mul_of_pos_right _ hb1) hmb
  have hw : IntKind.i64.wrap (m : Int) = m := by rw [IntKind.wrap_i64]; omega
  have hneg : ¬ ((m : Int) < 0) := by omega
  have hbig : ¬ ((m : Int) * (ti.bytes : Int) > 281474976710656) := by
    have : ((m * ti.bytes : Nat) : Int) ≤ 140737488355328 := by omega
    rw [Int.natCast_mul] at this
    omega
  have hbig' : ¬ (281474976710656 < (m : Int) * (ti.bytes : Int)) := by omega
  have hlen : (Builtin.zeroCells z.cells m).toList.length = m * ti.size := by simp [size_zeroCells, hzsz]
  have hap : ∀ w : World, (if m * ti.size = 0 then pure #[] else do pure (Builtin.zeroCells (← zeroValue el).cells m) : Sem (Array Value)).run P w = .ok (Builtin.zeroCells z.cells m) w := by
    intro w
    by_cases h0 : m * ti.size = 0
    · have : Builtin.zeroCells z.cells m = #[] := by
        apply Array.eq_empty_of_size_eq_zero
        simp [size_zeroCells, hzsz, h0]
      simp only [if_pos h0, Sem.run_pure, this]
    · simp [h0, zeroValue, typeInfo, hi, hz]
  refine ⟨hlen, fun v hv => ?_, fun b o n cap w' hg hst => ?_, fun hm0 => ?_, fun base n cap ol hold hg hb => ?_⟩
  · simp only [Builtin.zeroCells, Array.toList_map, Array.toList_range, List.mem_map, List.mem_range] at hv
    obtain ⟨i, hi', rfl⟩ := hv
    have hpos : 0 < z.cells.size := by
      rcases Nat.eq_zero_or_pos z.cells.size with h0 | h0
      · rw [h0] at hi'; simp at hi'
      · exact h0
    have hlt : i % z.cells.size < z.cells.size := Nat.mod_lt _ hpos
    rw [getElem!_pos z.cells _ hlt]
    exact h1 _ (by simp)
  · by_cases h0 : m * ti.size = 0
    · have hz0 : Builtin.zeroCells z.cells m = #[] := by
        apply Array.eq_empty_of_size_eq_zero
        simp [size_zeroCells, hzsz, h0]
      rw [hz0] at hst
      simp [Builtin.append_, run_underlying ht, run_underlying ht2, sizeOf, typeInfo, zeroValue, hi, hz, asInt, asIntOf, hw, hneg, hbig', hg, h0, add_plain, hst]
    · have h0' : ¬ (m = 0 ∨ ti.size = 0) := fun h => h0 (Nat.mul_eq_zero.2 h)
      simp [Builtin.append_, run_underlying ht, run_underlying ht2, sizeOf, typeInfo, zeroValue, hi, hz, asInt, asIntOf, hw, hneg, hbig', hg, h0, add_plain, hst]
  · subst hm0
    have hw0 : IntKind.i64.wrap 0 = 0 := by simpa using hw
    simp [Builtin.append_, run_underlying ht, run_underlying ht2, sizeOf, typeInfo, hi, asInt, asIntOf, hw0]
  · have hn : ¬ (n + m ≤ cap) := by omega
    have hle : n + m ≤ 140737488355328 := Nat.le_trans (Nat.le_mul_of_pos_right _ hb1) hb
    have hfit := growslice_fits hg hb
    have h48' : ¬ (281474976710656 < Builtin.nextslicecap (n + m) cap * ti.bytes) := by
      omega
    have h63' : ¬ (9223372036854775807 < ((n : Int) + (m : Int))) := by omega
    have e1 := hold w.drew rfl
    by_cases h0 : m * ti.size = 0
    · have hz0 : Builtin.zeroCells z.cells m = #[] := by
        apply Array.eq_empty_of_size_eq_zero
        simp [size_zeroCells, hzsz, h0]
      simp [Builtin.append_, run_underlying ht, run_underlying ht2, sizeOf, typeInfo, zeroValue, hi, hz, hn, h63', h48', Question.forced, e1, newRow, grownCap, asInt, asIntOf, hw, hneg, hbig', h0, hz0]
    · have h0' : ¬ (m = 0 ∨ ti.size = 0) := fun h => h0 (Nat.mul_eq_zero.2 h)
      simp [Builtin.append_, run_underlying ht, run_underlying ht2, sizeOf, typeInfo, zeroValue, hi, hz, hn, h63', h48', Question.forced, e1, newRow, grownCap, asInt, asIntOf, hw, hneg, hbig', h0]

/-- append, where what is appended to is given up. -/
theorem app_core {t t2 el : TypeId} {size bytes : Nat} {ti : TypeInfo} {z : Value} {zs : List AV} {ty : TypeId} {c : Cx} {sv xv : Value} {id : Option Nat} {n m : Nat} {cell nw : Nat → Nat → CV} {nl : List Value}
    (hs0 : 0 < size) (hb : ti.bytes = bytes) (hzsz : z.cells.size = size) (hh : HOk W c σ.H σ.nxt) (hsrc : ASrc P c.w t t2 ty el ti z size xv m nl) (hnl : ∀ i j, i < m → j < size → ∃ u, nl[i * size + j]? = some u ∧ RelC c.w c.I (nw i j) u)
    (hbytes : (n + m) * bytes ≤ 140737488355328) (hidk : (id = none ∧ n = 0) ∨ ∃ i k, id = some i ∧ lk i σ.H = some k ∧ k.live = true)
    (hos : (sv = .slice none 0 0 ∧ n = 0) ∨ ∃ i b cap arr ty fr, id = some i ∧ c.loc i = some b ∧ (∃ o, sv = .slice (some ⟨b, o, none⟩) n cap ∧ (cap ≠ 0 → o = 0)) ∧ n ≤ cap ∧ W b ∧ ¬ c.I b ∧ b < c.w.heap.size ∧ c.w.heap[b]? = some (Obj.cells arr ty fr) ∧ Thaw fr arr.size ∧
        cap * size ≤ arr.size ∧ ∀ i j, i < n → j < size → ∃ u, arr[i * size + j]? = some u ∧ RelC c.w c.I (cell i j) u) :
    ∃ y u, (Builtin.append_ #[t, t2] ty #[sv, xv]).run P c.w = .ok u y.w ∧ Step W c y ∧ HOk W y ((σ.nxt, .rows (n + m) size (appCell n cell nw)) :: killed id σ.H) (σ.nxt + 1) ∧ RelV y (.sl σ.nxt size 0 (n + m)) u := by
  have lt : ∀ {i j m : Nat}, i < m → j < size → i * size + j < m * size := fun {i j m} hi hj => by
    have : (i + 1) * size ≤ m * size := Nat.mul_le_mul_right _ (by omega)
    rw [Nat.add_mul, Nat.one_mul] at this
    omega
  have hkid : ∀ i, id = some i → i < σ.nxt := by
    intro i hi'
    rcases hidk with ⟨h1, _⟩ | ⟨j, k, h1, h2, _⟩
    · rw [h1] at hi'; cases hi'
    · rw [h1] at hi'; cases hi'; exact hh.keys _ _ h2
  -- where it grows
  have grow : ∀ (base : Option Addr) (cap : Nat) (ol : List Value), sv = .slice base n cap → cap < n + m → ol.length = n * size →
      (∀ w' : World, w'.heap = c.w.heap → (Builtin.firstCells size n (.slice base n cap)).run P w' = .ok ol.toArray w') → (∀ i j, i < n → j < size → ∃ u, ol[i * size + j]? = some u ∧ RelC c.w c.I (cell i j) u) →
      ∃ y u, (Builtin.append_ #[t, t2] ty #[sv, xv]).run P c.w = .ok u y.w ∧ Step W c y ∧
        HOk W y ((σ.nxt, .rows (n + m) size (appCell n cell nw)) :: killed id σ.H) (σ.nxt + 1) ∧ RelV y (.sl σ.nxt size 0 (n + m)) u := by
    intro base cap ol e1 hgr hlo hfo hro
    have hr := hsrc.grow base n cap ol hfo hgr (by rw [hb]; exact hbytes)
    have hge := grownCap_ge c.w (n + m) cap el
    have hst1 := Step.drew (W := W) (x := c)
    have hh1 := (HOk.drew hh).killed id hkid
    have hst2 := Step.new_ hh1 (.cells (ol.toArray ++ nl.toArray ++ Builtin.zeroCells z.cells (grownCap c.w (n + m) cap el - (n + m))) el (0, 0))
    have hst := hst1.trans hst2
    refine ⟨_, _, by rw [e1]; exact hr, hst, HOk.new_ hh1 _ _ ⟨_, el, (0, 0), heap_alloc_new' _ _, Thaw.zero _, ?_, fun i j hi' hj' => ?_⟩, ?_⟩
    · have := hsrc.len
      simp only [Array.size_append, List.size_toArray, hlo, this, Nat.add_mul]
      omega
    · have hlt := lt hi' hj'
      have hnll := hsrc.len
      have hget : (ol.toArray ++ nl.toArray ++ Builtin.zeroCells z.cells (grownCap c.w (n + m) cap el - (n + m)))[i * size + j]? = (ol ++ nl)[i * size + j]? := by
        rw [Array.getElem?_append_left (by simp only [Array.size_append, List.size_toArray, hlo, hnll, ← Nat.add_mul]; exact hlt)]
        simp
      rw [hget]
      by_cases hin : i < n
      · rw [List.getElem?_append_left (by rw [hlo]; exact lt hin hj'), appCell_old hin]
        obtain ⟨u, h1, h2⟩ := hro i j hin hj'
        exact ⟨u, h1, RelC.mono hst.ext.sub hst.ext.kept _ _ h2⟩
      · have hni : n * size ≤ i * size := Nat.mul_le_mul_right _ (by omega)
        rw [List.getElem?_append_right (by rw [hlo]; omega), appCell_new (by omega), hlo]
        obtain ⟨u, h1, h2⟩ := hnl (i - n) j (by omega) hj'
        refine ⟨u, ?_, RelC.mono hst.ext.sub hst.ext.kept _ _ h2⟩
        rw [Nat.sub_mul] at h1
        rw [← h1]
        congr 1
        omega
    · simp only [RelV]
      refine .inr ⟨c.w.heap.size, grownCap c.w (n + m) cap el, 0, by simp [Cx.new], rfl, hge, fun _ => by simp, _, el, (0, 0), heap_alloc_new' _ _, ?_⟩
      have := hsrc.len
      simp only [Array.size_append, List.size_toArray, hlo, this, size_zeroCells, hzsz, Nat.zero_add, ← Nat.add_mul]
      exact Nat.mul_le_mul_right _ (by omega)
  rcases hos with ⟨e1, rfl⟩ | ⟨i0, b, cap, arr, ty', fr, hid, hloc, ⟨off, e1, hoff⟩, hcap, hW, hI, hlt, hheap, hth, hsz, hrel⟩
  · by_cases hm : m = 0
    · subst hm
      refine ⟨c, _, by rw [e1]; exact hsrc.non rfl, Step.refl W c, HOk.void_ (hh.killed id hkid) rfl, ?_⟩
      unfold RelV
      exact .inl ⟨rfl, rfl⟩
    · exact grow none 0 [] e1 (by omega) (by simp) (fun w' _ => by simp [Builtin.firstCells]) (fun i j hi' => absurd hi' (Nat.not_lt_zero _))
  · by_cases hroom : n + m ≤ cap
    · -- there is room
      have hnll := hsrc.len
      have hoff' : n + m ≠ 0 → off = 0 := fun hne => hoff (by omega)
      by_cases h0 : n + m = 0
      · -- nothing at all
        obtain rfl : n = 0 := by omega
        obtain rfl : m = 0 := by omega
        have hnil : nl = [] := List.eq_nil_of_length_eq_zero (by simpa using hnll)
        have hst : (storeCells ⟨b, off + 0 * size, none⟩ nl).run P c.w = .ok () c.w := by rw [hnil]; rfl
        have hr := hsrc.room b off 0 cap _ (by omega) hst
        obtain ⟨i1, k1, hk1, hk2, hk3⟩ := hidk.resolve_left (fun h => by have := h.1; rw [hid] at this; cases this)
        obtain ⟨s1, s2⟩ := HOk.name (hh.killed id hkid) hW hI hlt (k := .rows (0 + 0) size (appCell 0 cell nw)) ⟨arr, ty', fr, hheap, hth, by simp, fun i j hi' => absurd hi' (by omega)⟩ (by
          intro q r hq hl hloc'
          rw [hid] at hq
          simp only [killed, lk_cons] at hq
          by_cases hc : q = i0
          · rw [if_pos hc] at hq; cases hq; cases hl
          · rw [if_neg hc] at hq
            rw [hid] at hk1
            cases hk1
            exact hc (hh.inj _ _ _ _ b hq hk2 hl hk3 hloc' hloc))
        refine ⟨_, _, by rw [e1]; exact hr, s1, s2, ?_⟩
        simp only [RelV]
        by_cases hcz : cap = 0
        · exact .inr ⟨b, cap, off, by simp, rfl, by omega, fun h => absurd hcz h, arr, ty', fr, hheap, by simpa using hsz⟩
        · have := hoff hcz
          subst this
          exact .inr ⟨b, cap, 0, by simp, rfl, by omega, fun h => by simp, arr, ty', fr, hheap, by simpa using hsz⟩
      · have := hoff' h0
        subst this
        have hfit : 0 + n * size + 0 + nl.length ≤ arr.size := by
          have : (n + m) * size ≤ cap * size := Nat.mul_le_mul_right _ hroom
          rw [Nat.add_mul] at this
          omega
        obtain ⟨w', r1, r2, r3, r4, r5, r6, r7⟩ := storeCells_run (P := P) (b := b) (off := 0 + n * size) nl 0 arr c.w hheap hth hfit hsrc.one
        have hr := hsrc.room b 0 n cap _ hroom r1
        obtain ⟨i1, k1, hk1, hk2, hk3⟩ := hidk.resolve_left (fun h => by have := h.1; rw [hid] at this; cases this)
        rw [hid] at hk1
        cases hk1
        have hst : Step W c { w := w', I := c.I, loc := c.loc } := Step.set_ hW hI hheap r2 (by rw [foldl_set_size]) r3 r4 r5 r6 r7
        have hblk : BlkRel { w := w', I := c.I, loc := c.loc } (.rows (n + m) size (appCell n cell nw)) b := by
          refine ⟨_, ty', fr, r2, by rw [foldl_set_size]; exact hth, by rw [foldl_set_size]; exact Nat.le_trans (Nat.mul_le_mul_right _ hroom) hsz, fun i j hi' hj' => ?_⟩
          rw [foldl_set_get _ _ _ _ _ (by omega)]
          have hmono : ∀ {q v}, RelC c.w c.I q v → RelC w' c.I q v := fun h => RelC.mono hst.ext.sub hst.ext.kept _ _ h
          by_cases hin : i < n
          · have := lt hin hj'
            rw [if_neg (by omega), appCell_old hin]
            obtain ⟨u, h1, h2⟩ := hrel i j hin hj'
            exact ⟨u, h1, hmono h2⟩
          · have hni : n * size ≤ i * size := Nat.mul_le_mul_right _ (by omega)
            have hl1 := lt (show i - n < m by omega) hj'
            rw [Nat.sub_mul] at hl1
            rw [if_pos (by omega), appCell_new (by omega)]
            obtain ⟨u, h1, h2⟩ := hnl (i - n) j (by omega) hj'
            refine ⟨u, ?_, hmono h2⟩
            rw [Nat.sub_mul] at h1
            rw [← h1]
            congr 1
            omega
        -- the old id goes, the new one comes
        have hmid := HOk.set_ (k' := .rows (n + m) size (appCell n cell nw)) hh hk2 hk3 hloc hst r3 r4 hblk
        have hkil := hmid.kill i0 (hkid i0 hid)
        obtain ⟨s1, s2⟩ := HOk.name hkil hW hI (by simp only; omega) hblk (by
          intro q r hq hl hloc'
          rw [lk_cons] at hq
          by_cases hc : q = i0
          · rw [if_pos hc] at hq; cases hq; cases hl
          · rw [if_neg hc, lk_cons, if_neg hc] at hq
            exact hc (hh.inj _ _ _ _ b hq hk2 hl hk3 hloc' hloc))
        refine ⟨_, _, by rw [e1]; exact hr, hst.trans s1, ?_, ?_⟩
        · have e : ∀ q : Nat, lk q ((σ.nxt, Blk.rows (n + m) size (appCell n cell nw)) :: (i0, .dead) :: (i0, .rows (n + m) size (appCell n cell nw)) :: σ.H) = lk q ((σ.nxt, .rows (n + m) size (appCell n cell nw)) :: (i0, .dead) :: σ.H) := by
            intro q
            simp only [lk_cons]
            by_cases h1 : q = σ.nxt
            · rw [if_pos h1, if_pos h1]
            · by_cases h2 : q = i0
              · simp [h1, h2]
              · simp [h1, h2]
          rw [hid]
          exact ⟨fun q k hq => s2.keys q k (by rw [e]; exact hq), fun q k hq hl => s2.blk q k (by rw [e]; exact hq) hl, fun q q' k k' c h1 h2 => s2.inj q q' k k' c (by rw [e]; exact h1) (by rw [e]; exact h2), s2.fresh, s2.bound, s2.room⟩
        · simp only [RelV]
          exact .inr ⟨b, cap, 0, by simp, rfl, hroom, fun _ => by simp, _, ty', fr, r2, by rw [foldl_set_size]; simpa using hsz⟩
    · -- it grows
      by_cases hn0 : n = 0
      · subst hn0
        exact grow _ cap [] e1 (by omega) (by simp) (fun w' _ => by simp [Builtin.firstCells, loadCells, loadCellsFrom]) (fun i j hi' => absurd hi' (Nat.not_lt_zero _))
      · have := hoff (by omega)
        subst this
        have hfit : 0 + n * size ≤ arr.size := by
          have : n * size ≤ cap * size := Nat.mul_le_mul_right _ hcap
          omega
        refine grow _ cap ((arr.toList.drop 0).take (n * size)) e1 (by omega) (by simp; omega) (fun w' hw' => ?_) (fun i j hi' hj' => ?_)
        · simp only [Builtin.firstCells]
          exact loadCells_blk (by rw [hw']; exact hheap) hfit
        · obtain ⟨u, h1, h2⟩ := hrel i j hi' hj'
          refine ⟨u, ?_, h2⟩
          rw [List.getElem?_take, if_pos (lt hi' hj')]
          simpa using h1


theorem hexec_app {t t2 : TypeId} {os ox : Operand} {a : Act} {w w' : World} {v : Value} (ho : o.op = .call { callee := .builtin .append, args := #[os, ox], argTypes := #[t, t2] })
    (hr : (Builtin.append_ #[t, t2] o.type #[a.eval os, a.eval ox]).run P w = .ok v w') : (execOp a.eval o).run P w = .ok (.value v) w' := by
  simp [execOp, ho, resolve, invoke, builtin, hr]

theorem appK_sound {t t2 el : TypeId} {size bytes : Nat} {ti : TypeInfo} {z : Value} {ty : TypeId} {c : Cx} {a : AV} {sv xv : Value} {m : Nat} {nw : Nat → Nat → CV} {nl : List Value}
    (hs0 : 0 < size) (hb : ti.bytes = bytes) (hzsz : z.cells.size = size) (hh : HOk W c σ.H σ.nxt) (hr : RelV c a sv) (hsrc : ASrc P c.w t t2 ty el ti z size xv m nl) (hnl : ∀ i j, i < m → j < size → ∃ u, nl[i * size + j]? = some u ∧ RelC c.w c.I (nw i j) u)
    (h : appK σ size bytes a m nw K) : ∃ v σ' y u, K v σ' ∧ σ'.env = σ.env ∧ (Builtin.append_ #[t, t2] ty #[sv, xv]).run P c.w = .ok u y.w ∧ Step W c y ∧ HOk W y σ'.H σ'.nxt ∧ RelV y v u := by
  have old : (olds σ.H size a fun id n cell => (n + m) * bytes ≤ 140737488355328 ∧ K (.sl σ.nxt size 0 (n + m)) { env := σ.env, H := (σ.nxt, .rows (n + m) size (appCell n cell nw)) :: killed id σ.H, nxt := σ.nxt + 1 }) →
      ∃ v σ' y u, K v σ' ∧ σ'.env = σ.env ∧ (Builtin.append_ #[t, t2] ty #[sv, xv]).run P c.w = .ok u y.w ∧ Step W c y ∧ HOk W y σ'.H σ'.nxt ∧ RelV y v u := by
    intro h
    obtain ⟨id, n, cell, ⟨hbytes, hK⟩, hidk, hos⟩ := olds_sound (W := W) (nxt := σ.nxt) hs0 h
    obtain ⟨y, u, h1, h2, h3, h4⟩ := app_core (zs := []) hs0 hb hzsz hh hsrc hnl hbytes (hidk.imp (fun h => ⟨h.1, h.2.1⟩) fun h => h) (hos c _ hh hr)
    exact ⟨_, _, y, u, hK, rfl, h1, h2, h3, h4⟩
  cases a with
  | sk id size' start n cap =>
    simp only [appK] at h
    cases q1 : Nat.beq size size' with
    | false => simp [q1] at h
    | true =>
      cases q2 : Nat.beq start 0 with
      | false => simp [q1, q2] at h
      | true =>
        cases hl : lk id σ.H with
        | none => simp [q1, q2, hl] at h
        | some blk =>
          cases blk with
          | rows n' size'' cell =>
            simp only [q1, q2, hl] at h
            cases q3 : Nat.beq size size'' with
            | false => simp [q3] at h
            | true =>
              simp only [q3] at h
              obtain rfl := Nat.eq_of_beq_eq_true q1
              obtain rfl := Nat.eq_of_beq_eq_true q2
              obtain rfl := Nat.eq_of_beq_eq_true q3
              obtain ⟨hle, hbytes, hroomK, hgrowK⟩ := h
              have lt : ∀ {i j m : Nat}, i < m → j < size → i * size + j < m * size := fun {i j m} hi hj => by
                have : (i + 1) * size ≤ m * size := Nat.mul_le_mul_right _ (by omega)
                rw [Nat.add_mul, Nat.one_mul] at this
                omega
              simp only [RelV] at hr
              obtain ⟨b, off, hloc, rfl, hcap, hoff, cs, ty', fr, hheap, hsz⟩ := hr
              obtain ⟨hW, hI, hlt, hrel⟩ := hh.at_ hl rfl hloc
              obtain ⟨arr, ty1, fr1, hheap', hth, hns, hrs⟩ := hrel
              rw [hheap] at hheap'
              cases hheap'
              have hnll := hsrc.len
              by_cases hroom : n + m ≤ cap
              · -- there is room
                have hfit : n * size + nl.length ≤ cs.size := by
                  have : (n + m) * size ≤ cap * size := Nat.mul_le_mul_right _ hroom
                  rw [Nat.add_mul] at this
                  simp only [Nat.zero_add] at hsz
                  omega
                have hstore : ∃ w', (storeCells ⟨b, off + n * size, none⟩ nl).run P c.w = .ok () w' ∧ w'.heap[b]? = some (Obj.cells ((nl.zipIdx 0).foldl (fun (cs : Array Value) (x : Value × Nat) => cs.setIfInBounds (n * size + x.2) x.1) cs) ty' fr) ∧
                    (∀ k, k ≠ b → w'.heap[k]? = c.w.heap[k]?) ∧ w'.heap.size = c.w.heap.size ∧ w'.os = c.w.os ∧ w'.tape = c.w.tape ∧ w'.output = c.w.output := by
                  by_cases hc0 : cap = 0
                  · obtain rfl : m = 0 := by omega
                    have hnil : nl = [] := List.eq_nil_of_length_eq_zero (by simpa using hnll)
                    subst hnil
                    exact ⟨c.w, rfl, by simpa using hheap, fun _ _ => rfl, rfl, rfl, rfl, rfl⟩
                  · obtain rfl : off = 0 := by simpa using hoff hc0
                    obtain ⟨w', r⟩ := storeCells_run (P := P) (b := b) (off := n * size) nl 0 cs c.w hheap hth (by omega) hsrc.one
                    exact ⟨w', by simpa using r⟩
                obtain ⟨w', r1, r2, r3, r4, r5, r6, r7⟩ := hstore
                have hst : Step W c { w := w', I := c.I, loc := c.loc } := Step.set_ hW hI hheap r2 (by rw [foldl_set_size]) r3 r4 r5 r6 r7
                have hblk : BlkRel { w := w', I := c.I, loc := c.loc } (.rows (n + m) size (appCell n cell nw)) b := by
                  refine ⟨_, ty', fr, r2, by rw [foldl_set_size]; exact hth, by rw [foldl_set_size]; simp only [Nat.zero_add] at hsz; exact Nat.le_trans (Nat.mul_le_mul_right _ hroom) hsz, fun i j hi' hj' => ?_⟩
                  rw [foldl_set_get _ _ _ _ _ (by omega)]
                  have hmono : ∀ {q v}, RelC c.w c.I q v → RelC w' c.I q v := fun h => RelC.mono hst.ext.sub hst.ext.kept _ _ h
                  by_cases hin : i < n
                  · have := lt hin hj'
                    rw [if_neg (by omega), appCell_old hin]
                    obtain ⟨u, h1, h2⟩ := hrs i j (by omega) hj'
                    exact ⟨u, h1, hmono h2⟩
                  · have hni : n * size ≤ i * size := Nat.mul_le_mul_right _ (by omega)
                    have hl1 := lt (show i - n < m by omega) hj'
                    rw [Nat.sub_mul] at hl1
                    rw [if_pos (by omega), appCell_new (by omega)]
                    obtain ⟨u, h1, h2⟩ := hnl (i - n) j (by omega) hj'
                    refine ⟨u, ?_, hmono h2⟩
                    rw [Nat.sub_mul] at h1
                    rw [← h1]
                    congr 1
                    omega
                have hr := hsrc.room b off n cap _ hroom r1
                refine ⟨_, _, _, _, hroomK hroom, rfl, hr, hst, HOk.set_ hh hl rfl hloc hst r3 r4 hblk, ?_⟩
                simp only [RelV]
                exact ⟨b, off, hloc, rfl, hroom, hoff, _, ty', fr, r2, by rw [foldl_set_size]; exact hsz⟩
              · -- it grows
                have hgr : cap < n + m := by omega
                have hfirst : ∃ ol : List Value, ol.length = n * size ∧ (∀ w' : World, w'.heap = c.w.heap → (Builtin.firstCells size n (.slice (some ⟨b, off, none⟩) n cap)).run P w' = .ok ol.toArray w') ∧ ∀ i j, i < n → j < size → ∃ u, ol[i * size + j]? = some u ∧ RelC c.w c.I (cell i j) u := by
                  by_cases hn0 : n = 0
                  · subst hn0
                    exact ⟨[], by simp, fun w' _ => by simp [Builtin.firstCells, loadCells, loadCellsFrom], fun i j hi' => absurd hi' (Nat.not_lt_zero _)⟩
                  · obtain rfl : off = 0 := by simpa using hoff (by omega)
                    have hfit : 0 + n * size ≤ cs.size := by
                      have : n * size ≤ cap * size := Nat.mul_le_mul_right _ hcap
                      simp only [Nat.zero_add] at hsz
                      omega
                    refine ⟨(cs.toList.drop 0).take (n * size), by simp; omega, fun w' hw' => ?_, fun i j hi' hj' => ?_⟩
                    · simp only [Builtin.firstCells]
                      exact loadCells_blk (by rw [hw']; exact hheap) hfit
                    · obtain ⟨u, h1, h2⟩ := hrs i j (by omega) hj'
                      refine ⟨u, ?_, h2⟩
                      rw [List.getElem?_take, if_pos (lt hi' hj')]
                      simpa using h1
                obtain ⟨ol, hlo, hfo, hro⟩ := hfirst
                have hr := hsrc.grow _ n cap ol hfo hgr (by rw [hb]; exact hbytes)
                have hge := grownCap_ge c.w (n + m) cap el
                have hst1 := Step.drew (W := W) (x := c)
                have hh1 := HOk.drew hh
                have hst2 := Step.new_ hh1 (.cells (ol.toArray ++ nl.toArray ++ Builtin.zeroCells z.cells (grownCap c.w (n + m) cap el - (n + m))) el (0, 0))
                have hst := hst1.trans hst2
                refine ⟨_, _, _, _, hgrowK hgr, rfl, hr, hst, HOk.new_ hh1 _ _ ⟨_, el, (0, 0), heap_alloc_new' _ _, Thaw.zero _, ?_, fun i j hi' hj' => ?_⟩, ?_⟩
                · simp only [Array.size_append, List.size_toArray, hlo, hnll, Nat.add_mul]
                  omega
                · have hlt := lt hi' hj'
                  have hget : (ol.toArray ++ nl.toArray ++ Builtin.zeroCells z.cells (grownCap c.w (n + m) cap el - (n + m)))[i * size + j]? = (ol ++ nl)[i * size + j]? := by
                    rw [Array.getElem?_append_left (by simp only [Array.size_append, List.size_toArray, hlo, hnll, ← Nat.add_mul]; exact hlt)]
                    simp
                  rw [hget]
                  by_cases hin : i < n
                  · rw [List.getElem?_append_left (by rw [hlo]; exact lt hin hj'), appCell_old hin]
                    obtain ⟨u, h1, h2⟩ := hro i j hin hj'
                    exact ⟨u, h1, RelC.mono hst.ext.sub hst.ext.kept _ _ h2⟩
                  · have hni : n * size ≤ i * size := Nat.mul_le_mul_right _ (by omega)
                    rw [List.getElem?_append_right (by rw [hlo]; omega), appCell_new (by omega), hlo]
                    obtain ⟨u, h1, h2⟩ := hnl (i - n) j (by omega) hj'
                    refine ⟨u, ?_, RelC.mono hst.ext.sub hst.ext.kept _ _ h2⟩
                    rw [Nat.sub_mul] at h1
                    rw [← h1]
                    congr 1
                    omega
                · simp only [RelV]
                  refine .inr ⟨c.w.heap.size, grownCap c.w (n + m) cap el, 0, by simp [Cx.new], rfl, hge, fun _ => by simp, _, el, (0, 0), heap_alloc_new' _ _, ?_⟩
                  simp only [Array.size_append, List.size_toArray, hlo, hnll, size_zeroCells, hzsz, Nat.zero_add, ← Nat.add_mul]
                  exact Nat.mul_le_mul_right _ (by omega)
          | _ => simp [q1, q2, hl] at h
  | _ => exact old h

theorem hop_app {t t2 el : TypeId} {os ox : Operand} {xs x : X} {size bytes : Nat} {ti : TypeInfo} {zs : List AV} (ho : o.op = .call { callee := .builtin .append, args := #[os, ox], argTypes := #[t, t2] })
    (ht : tSlice P t = some el) (ht2 : P.underlying t2 = some .string ∨ ∃ e2, P.underlying t2 = some (.slice e2)) (hi : P.info? el = some ti) (hs : ti.size = size) (hb : ti.bytes = bytes)
    (hb1 : 1 ≤ bytes) (hs0 : 0 < size) (hz : zCells P el = some zs) (hzl : zs.length = size) (hxs : convX os = some xs) (hx : convX ox = some x) (h : hop (.app size bytes xs x) σ K) : HSound P W o σ K := by
  obtain ⟨sv, hsv, hrs⟩ := gx_sound hxs h
  obtain ⟨xv, hxv, hrx⟩ := gx_sound hx hsv
  obtain ⟨m, nw, hK, hns⟩ := news_sound (P := P) (W := W) (nxt := σ.nxt) hxv
  obtain ⟨z, hz, hzr, hz1⟩ := zCells_spec hz
  have hz' : ti.zero = some z := by simpa [tZero, hi] using hz
  intro c a hh he
  have hzsz : z.cells.size = size := by
    have := RelVs_length (hzr c)
    simp at this
    omega
  obtain ⟨nl, hsrc, hnl⟩ := hns c _ hh (hrx c a (he.on fun t ht => by simp [ho, Op.operands, Call.operands, convX_tmps hx t ht]))
  obtain ⟨v, σ', y, u, h1, h2, h3, h4⟩ := appK_sound (el := el) (ty := o.type) hs0 hb hzsz hh (hrs c a (he.on fun t ht => by simp [ho, Op.operands, Call.operands, convX_tmps hxs t ht])) (hsrc.asrc (tSlice_spec ht) ht2 hi hz' hs (by omega)) hnl hK
  exact ⟨v, σ', y, u, h1, h2, .inl (hexec_app ho h3), h4⟩

theorem hop_appz {t t2 el : TypeId} {os ox : Operand} {xs x : X} {size bytes : Nat} {ti : TypeInfo} {zs : List AV} {kn : IntKind} (ho : o.op = .call { callee := .builtin .append, args := #[os, ox], argTypes := #[t, t2] })
    (ht : tSlice P t = some el) (ht2 : P.underlying t2 = some (.int kn)) (hi : P.info? el = some ti) (hs : ti.size = size) (hb : ti.bytes = bytes)
    (hb1 : 1 ≤ bytes) (hs0 : 0 < size) (hz : zCells P el = some zs) (hzl : zs.length = size) (hxs : convX os = some xs) (hx : convX ox = some x) (h : hop (.appz size bytes zs xs x) σ K) : HSound P W o σ K := by
  obtain ⟨sv, hsv, hrs⟩ := gx_sound hxs h
  obtain ⟨xv, hxv, hrx⟩ := gx_sound hx hsv
  obtain ⟨z, hz, hzr, hz1⟩ := zCells_spec hz
  have hz' : ti.zero = some z := by simpa [tZero, hi] using hz
  cases xv with
  | i k q =>
    simp only at hxv
    cases hcz : cvs zs with
    | none => simp [hcz] at hxv
    | some zl =>
      simp only [hcz] at hxv
      obtain ⟨m, rfl, hmb, hK⟩ := hxv
      obtain ⟨hcvl, hcvg⟩ := cvs_spec hcz
      intro c a hh he
      have hzsz : z.cells.size = size := by
        have := RelVs_length (hzr c)
        simp at this
        omega
      have e1 : a.eval ox = .int k (m : Int) := by simpa [RelV] using hrx c a (he.on fun t ht => by simp [ho, Op.operands, Call.operands, convX_tmps hx t ht])
      have hsrc := zsrc (P := P) (ty := o.type) (w := c.w) (k := k) (tSlice_spec ht) ht2 hi hz' hs hzsz (by omega) (by rw [hb]; exact hmb) hz1
      obtain ⟨v, σ', y, u, h1, h2, h3, h4⟩ := appK_sound (el := el) (ty := o.type) hs0 hb hzsz hh (hrs c a (he.on fun t ht => by simp [ho, Op.operands, Call.operands, convX_tmps hxs t ht])) hsrc (fun i j hi' hj' => by
        have hlt : i * size + j < m * size := by
          have : (i + 1) * size ≤ m * size := Nat.mul_le_mul_right _ (by omega)
          rw [Nat.add_mul, Nat.one_mul] at this
          omega
        have hmod : (i * size + j) % size = j := by
          rw [Nat.add_comm, Nat.add_mul_mod_self_right]
          exact Nat.mod_eq_of_lt hj'
        obtain ⟨u, hu, hru⟩ := RelVs_get (hzr c) j (zs[j]'(by omega)) (List.getElem?_eq_getElem _)
        obtain ⟨q, hc1, hc2⟩ := hcvg j (zs[j]'(by omega)) (List.getElem?_eq_getElem _)
        refine ⟨u, ?_, ?_⟩
        · have hu' : z.cells[j]? = some u := by simpa using hu
          simp only [Builtin.zeroCells, Array.toList_map, Array.toList_range, hzsz]
          rw [List.getElem?_map, List.getElem?_range hlt]
          simp [hmod, getElem!_def, hu']
        · simp only [List.getD_eq_getElem?_getD, hc1]
          exact AV.cv_rel hc2 hru) hK
      exact ⟨v, σ', y, u, h1, h2, .inl (hexec_app ho (by rw [e1]; exact h3)), h4⟩
  | _ => exact hxv.elim

end
end Go.Hb

namespace Go.Hb
open Go.RowKit
variable [Amb]

section
variable {P : Program} {W : Nat → Prop} {σ : St} {K : AV → St → Prop} {o : Oper}

theorem cpCell_in {start c : Nat} {cell nw : Nat → Nat → CV} {i : Nat} (h1 : start ≤ i) (h2 : i < start + c) (j : Nat) : cpCell start c cell nw i j = nw (i - start) j := by
  have e1 : Nat.ble start i = true := by simpa using h1
  have e2 : Nat.blt i (start + c) = true := by simpa using h2
  simp [cpCell, e1, e2]
theorem cpCell_out {start c : Nat} {cell nw : Nat → Nat → CV} {i : Nat} (h : ¬ (start ≤ i ∧ i < start + c)) (j : Nat) : cpCell start c cell nw i j = cell i j := by
  simp only [cpCell]
  split
  · rename_i e1 e2
    exact absurd ⟨by simpa using e1, by simpa using e2⟩ h
  · rfl

/-- Some rows are written into a block of the call's own. -/
theorem rows_write {c : Cx} {id b off n start m cap size : Nat} {arr : Array Value} {ty : TypeId} {fr : Nat × Nat} {cell nw : Nat → Nat → CV} {nl : List Value} (hh : HOk W c σ.H σ.nxt) (hl : lk id σ.H = some (.rows n size cell)) (hloc : c.loc id = some b)
    (hheap : c.w.heap[b]? = some (Obj.cells arr ty fr)) (hoff : cap ≠ 0 → off = start * size) (hmc : m ≤ cap) (hsz : (start + cap) * size ≤ arr.size) (hlen : nl.length = m * size) (hone : ∀ v ∈ nl, v.oneCell' = true)
    (hnl : ∀ i j, i < m → j < size → ∃ u, nl[i * size + j]? = some u ∧ RelC c.w c.I (nw i j) u) (n' : Nat) (hn' : n' ≤ max n (start + m)) (hst : start ≤ n ∨ n' ≤ n) :
    ∃ y : Cx, (storeCells ⟨b, off, none⟩ nl).run P c.w = .ok () y.w ∧ Step W c y ∧ HOk W y ((id, .rows n' size (cpCell start m cell nw)) :: σ.H) σ.nxt := by
  have lt : ∀ {i j m : Nat}, i < m → j < size → i * size + j < m * size := fun {i j m} hi hj => by
    have : (i + 1) * size ≤ m * size := Nat.mul_le_mul_right _ (by omega)
    rw [Nat.add_mul, Nat.one_mul] at this
    omega
  obtain ⟨hW, hI, hlt, hrel⟩ := hh.at_ hl rfl hloc
  obtain ⟨arr', ty', fr', hheap', hth, hns, hrs⟩ := hrel
  rw [hheap] at hheap'
  cases hheap'
  have hstore : ∃ w', (storeCells ⟨b, off, none⟩ nl).run P c.w = .ok () w' ∧ w'.heap[b]? = some (Obj.cells ((nl.zipIdx 0).foldl (fun (cs : Array Value) (x : Value × Nat) => cs.setIfInBounds (start * size + x.2) x.1) arr) ty fr) ∧
      (∀ k, k ≠ b → w'.heap[k]? = c.w.heap[k]?) ∧ w'.heap.size = c.w.heap.size ∧ w'.os = c.w.os ∧ w'.tape = c.w.tape ∧ w'.output = c.w.output := by
    by_cases hm0 : m = 0
    · subst hm0
      have hnil : nl = [] := List.eq_nil_of_length_eq_zero (by simpa using hlen)
      subst hnil
      exact ⟨c.w, rfl, by simpa using hheap, fun _ _ => rfl, rfl, rfl, rfl, rfl⟩
    · obtain rfl := hoff (by omega)
      have hfit : start * size + 0 + nl.length ≤ arr.size := by
        have : (start + m) * size ≤ (start + cap) * size := Nat.mul_le_mul_right _ (by omega)
        rw [Nat.add_mul] at this
        omega
      exact storeCells_run (P := P) (b := b) (off := start * size) nl 0 arr c.w hheap hth hfit hone
  obtain ⟨w', r1, r2, r3, r4, r5, r6, r7⟩ := hstore
  have hstp : Step W c { w := w', I := c.I, loc := c.loc } := Step.set_ hW hI hheap r2 (by rw [foldl_set_size]) r3 r4 r5 r6 r7
  have hfit' : start * size + m * size ≤ arr.size := by
    have : (start + m) * size ≤ (start + cap) * size := Nat.mul_le_mul_right _ (by omega)
    rw [Nat.add_mul] at this
    omega
  refine ⟨{ w := w', I := c.I, loc := c.loc }, r1, hstp, HOk.set_ hh hl rfl hloc hstp r3 r4 ⟨_, ty, fr, r2, by rw [foldl_set_size]; exact hth, ?_, fun i j hi hj => ?_⟩⟩
  · rw [foldl_set_size]
    rcases Nat.le_total n (start + m) with h | h
    · have : n' * size ≤ (start + m) * size := Nat.mul_le_mul_right _ (by omega)
      rw [Nat.add_mul] at this
      omega
    · have : n' * size ≤ n * size := Nat.mul_le_mul_right _ (by omega)
      omega
  · rw [foldl_set_get _ _ _ _ _ (by omega)]
    have hmono : ∀ {q v}, RelC c.w c.I q v → RelC w' c.I q v := fun h => RelC.mono hstp.ext.sub hstp.ext.kept _ _ h
    by_cases hin : start ≤ i ∧ i < start + m
    · have h1 : start * size ≤ i * size := Nat.mul_le_mul_right _ hin.1
      have hl1 := lt (show i - start < m by omega) hj
      rw [Nat.sub_mul] at hl1
      rw [if_pos (by omega), cpCell_in hin.1 hin.2]
      obtain ⟨u, h2, h3⟩ := hnl (i - start) j (by omega) hj
      refine ⟨u, ?_, hmono h3⟩
      rw [Nat.sub_mul] at h2
      rw [← h2]
      congr 1
      omega
    · have hne : ¬ (start * size + 0 ≤ i * size + j ∧ i * size + j < start * size + 0 + nl.length) := by
        rintro ⟨c1, c2⟩
        rcases Nat.lt_or_ge i start with h' | h'
        · have := lt h' hj
          omega
        · have : (start + m) * size ≤ i * size := Nat.mul_le_mul_right _ (by omega)
          rw [Nat.add_mul] at this
          omega
      rw [if_neg hne, cpCell_out hin]
      obtain ⟨u, h2, h3⟩ := hrs i j (by omega) hj
      exact ⟨u, h2, hmono h3⟩

theorem hop_copy {t el : TypeId} {t2 : TypeId} {od os : Operand} {xd xs : X} {size : Nat} (ho : o.op = .call { callee := .builtin .copy, args := #[od, os], argTypes := #[t, t2] })
    (ht : tSlice P t = some el) (hs : tSize P el = some size) (hxd : convX od = some xd) (hxs : convX os = some xs) (h : hop (.copy size xd xs) σ K) : HSound P W o σ K := by
  obtain ⟨dv, hdv, hrd⟩ := gx_sound hxd h
  obtain ⟨sv, hsv, hrs⟩ := gx_sound hxs hdv
  obtain ⟨m, nw, hK, hns⟩ := news_sound (P := P) (W := W) (nxt := σ.nxt) hsv
  intro c a hh he
  have rd := hrd c a (he.on fun t ht => by simp [ho, Op.operands, Call.operands, convX_tmps hxd t ht])
  have rs := hrs c a (he.on fun t ht => by simp [ho, Op.operands, Call.operands, convX_tmps hxs t ht])
  -- the source, of which no more is asked than there is room for
  have hshr : ∃ sv' : Value, RelV c (shrink (avLen dv) sv) sv' ∧ (∀ n w', (Builtin.firstCells size n (a.eval os)).run P w' = (Builtin.firstCells size n sv').run P w') ∧
      (∀ m', (∀ w', (Builtin.lenOf sv').run P w' = .ok m' w') → ∃ m0, (∀ w', (Builtin.lenOf (a.eval os)).run P w' = .ok m0 w') ∧ min m0 (avLen dv) = min m' (avLen dv)) := by
    cases sv with
    | sk id size' st m c' =>
      simp only [RelV] at rs
      obtain ⟨b, o', h1, h2, h3, h4, h5⟩ := rs
      refine ⟨.slice (some ⟨b, o', none⟩) (min m (avLen dv)) c', ?_, fun n w' => by rw [h2]; rfl, fun m' hm' => ⟨m, fun w' => by rw [h2]; simp [Builtin.lenOf], ?_⟩⟩
      · simp only [shrink, RelV]
        exact ⟨b, o', h1, rfl, by omega, h4, h5⟩
      · have := hm' default
        simp [Builtin.lenOf] at this
        omega
    | _ => exact ⟨a.eval os, rs, fun _ _ => rfl, fun m' hm' => ⟨m', hm', rfl⟩⟩
  obtain ⟨sv', hsv', hfc, hln⟩ := hshr
  obtain ⟨nl, hsrc, hnl⟩ := hns c _ hh hsv'
  obtain ⟨m0, hm0, hmin0⟩ := hln m hsrc.1
  have hexec : ∀ (base : Option Addr) (dl cap : Nat) (w' : World), dl = avLen dv → a.eval od = .slice base dl cap → (match base with | some ad => (storeCells ad (nl.take (min m dl * size))).run P c.w = .ok () w' | none => w' = c.w) →
      (execOp a.eval o).run P c.w = .ok (.value (.int .i64 ((min m dl : Nat) : Int))) w' := by
    intro base dl cap w' hdl e1 e2
    have h1 := hm0 c.w
    have h2 := hsrc.2.1 c.w rfl (min m dl) (Nat.min_le_left _ _)
    rw [← hfc] at h2
    have hmin : Nat.min m0 dl = min m dl := by rw [hdl]; exact hmin0
    cases base with
    | none => subst e2; simp [execOp, ho, resolve, invoke, builtin, Builtin.copy_, e1, run_underlying (tSlice_spec ht), sizeOf_run hs, h1, hmin, h2, goInt]
    | some ad => simp [execOp, ho, resolve, invoke, builtin, Builtin.copy_, e1, run_underlying (tSlice_spec ht), sizeOf_run hs, h1, hmin, h2, goInt, e2]
  have hlen : ∀ dl, (nl.take (min m dl * size)).length = min m dl * size := fun dl => by
    have h1 := hsrc.2.2.1
    have : min m dl * size ≤ m * size := Nat.mul_le_mul_right _ (Nat.min_le_left _ _)
    simp [h1]
    try omega
  have hone : ∀ dl, ∀ v ∈ nl.take (min m dl * size), v.oneCell' = true := fun dl v hv => hsrc.2.2.2 v (List.mem_of_mem_take hv)
  have hget : ∀ dl, ∀ i j, i < min m dl → j < size → ∃ u, (nl.take (min m dl * size))[i * size + j]? = some u ∧ RelC c.w c.I (nw i j) u := fun dl i j hi hj => by
    have : (i + 1) * size ≤ min m dl * size := Nat.mul_le_mul_right _ (by omega)
    rw [Nat.add_mul, Nat.one_mul] at this
    obtain ⟨u, h1, h2⟩ := hnl i j (by omega) hj
    exact ⟨u, by rw [List.getElem?_take, if_pos (by omega)]; exact h1, h2⟩
  cases dv with
  | nils =>
    simp only [RelV] at rd
    refine ⟨_, _, c, .int .i64 ((0 : Nat) : Int), hK, rfl, .inl ?_, Step.refl W c, hh, by simp only [RelV]⟩
    have := hexec none 0 0 c.w rfl rd rfl
    simpa using this
  | sl id size' start dl =>
    simp only at hK
    cases q1 : Nat.beq size size' with
    | false => simp [q1] at hK
    | true =>
      cases hl : lk id σ.H with
      | none => simp [q1, hl] at hK
      | some blk =>
        cases blk with
        | rows n size'' cell =>
          simp only [q1, hl] at hK
          cases q2 : Nat.beq size size'' with
          | false => simp [q2] at hK
          | true =>
            simp only [q2] at hK
            obtain rfl := Nat.eq_of_beq_eq_true q1
            obtain rfl := Nat.eq_of_beq_eq_true q2
            obtain ⟨hle, hK⟩ := hK
            simp only [RelV] at rd
            rcases rd with ⟨rfl, e⟩ | ⟨b, cap, off, hloc, e, hcap, hoff, cs, ty, fr, hheap, hsz⟩
            · -- nothing there
              have hz : min m 0 = 0 := by omega
              refine ⟨_, _, c, _, hK, rfl, .inl (hexec none 0 0 c.w rfl e rfl), Step.refl W c, ?_, by simp only [RelV]⟩
              have hsame : ∀ b, BlkRel c (.rows n size cell) b → BlkRel c (.rows (max n (start + min m 0)) size (cpCell start (min m 0) cell nw)) b := by
                rintro b ⟨arr, ty, fr, h1, h2, h3, h4⟩
                have hmx : max n (start + min m 0) = n := by omega
                rw [hmx]
                refine ⟨arr, ty, fr, h1, h2, h3, fun i j hi hj => ?_⟩
                rw [cpCell_out (by omega)]
                exact h4 i j hi hj
              refine ⟨fun i q hq => ?_, fun i q hq hl' => ?_, fun i i' q q' b h1 h2 l1 l2 e1 e2 => ?_, hh.fresh, hh.bound, hh.room⟩
              · rw [lk_cons] at hq
                by_cases hc : i = id
                · rw [hc]; exact hh.keys id _ hl
                · rw [if_neg hc] at hq; exact hh.keys i q hq
              · rw [lk_cons] at hq
                by_cases hc : i = id
                · rw [if_pos hc] at hq
                  cases hq
                  rcases hh.blk id _ hl rfl with ⟨f1, f2⟩ | ⟨b, f1, f2, f3, f4, f5⟩
                  · refine .inl ⟨?_, by rw [hc]; exact f2⟩
                    simp only [Blk.void] at f1 ⊢
                    omega
                  · exact .inr ⟨b, by rw [hc]; exact f1, f2, f3, f4, hsame b f5⟩
                · rw [if_neg hc] at hq; exact hh.blk i q hq hl'
              · have key : ∀ j r, lk j ((id, .rows (max n (start + min m 0)) size (cpCell start (min m 0) cell nw)) :: σ.H) = some r → ∃ r', lk j σ.H = some r' ∧ r'.live = r.live := fun j r hj => by
                  rw [lk_cons] at hj
                  by_cases hc : j = id
                  · rw [if_pos hc] at hj; cases hj; exact ⟨.rows n size cell, by rw [hc]; exact hl, rfl⟩
                  · rw [if_neg hc] at hj; exact ⟨r, hj, rfl⟩
                obtain ⟨r1, a1, a2⟩ := key i q h1
                obtain ⟨r2, b1, b2⟩ := key i' q' h2
                exact hh.inj i i' r1 r2 b a1 b1 (a2.trans l1) (b2.trans l2) e1 e2
            · obtain ⟨y, r1, r2, r3⟩ := rows_write (P := P) hh hl hloc hheap hoff (show min m dl ≤ cap by omega) hsz (hlen dl) (hone dl) (hget dl) (max n (start + min m dl)) (Nat.le_refl _) (.inl hle)
              exact ⟨_, _, y, _, hK, rfl, .inl (hexec _ dl cap y.w rfl e r1), r2, r3, by simp only [RelV]⟩
        | _ => simp [q1, hl] at hK
  | sk id size' start dl cap0 =>
    simp only at hK
    cases q1 : Nat.beq size size' with
    | false => simp [q1] at hK
    | true =>
      cases hl : lk id σ.H with
      | none => simp [q1, hl] at hK
      | some blk =>
        cases blk with
        | rows n size'' cell =>
          simp only [q1, hl] at hK
          cases q2 : Nat.beq size size'' with
          | false => simp [q2] at hK
          | true =>
            simp only [q2] at hK
            obtain rfl := Nat.eq_of_beq_eq_true q1
            obtain rfl := Nat.eq_of_beq_eq_true q2
            obtain ⟨hle, hK⟩ := hK
            simp only [RelV] at rd
            obtain ⟨b, off, hloc, e, hcap, hoff, cs, ty, fr, hheap, hsz⟩ := rd
            obtain ⟨y, r1, r2, r3⟩ := rows_write (P := P) hh hl hloc hheap hoff (show min m dl ≤ cap0 by omega) hsz (hlen dl) (hone dl) (hget dl) (max n (start + min m dl)) (Nat.le_refl _) (.inl hle)
            exact ⟨_, _, y, _, hK, rfl, .inl (hexec _ dl cap0 y.w rfl e r1), r2, r3, by simp only [RelV]⟩
        | _ => simp [q1, hl] at hK
  | _ => exact hK.elim

theorem hop_clear {t el : TypeId} {ox : Operand} {x : X} {size : Nat} {zs : List AV} (ho : o.op = .call { callee := .builtin .clear, args := #[ox], argTypes := #[t] })
    (ht : tSlice P t = some el) (hz : zCells P el = some zs) (hzl : zs.length = size) (hx : convX ox = some x) (h : hop (.clear size zs x) σ K) : HSound P W o σ K := by
  obtain ⟨dv, hdv, hrd⟩ := gx_sound hx h
  obtain ⟨z, hz, hzr, hz1⟩ := zCells_spec hz
  cases hcz : cvs zs with
  | none => simp [hcz] at hdv
  | some zl =>
    simp only [hcz] at hdv
    obtain ⟨hcvl, hcvg⟩ := cvs_spec hcz
    intro c a hh he
    have rd := hrd c a (he.on fun t ht => by simp [ho, Op.operands, Call.operands, convX_tmps hx t ht])
    have hzsz : z.cells.size = size := by
      have := RelVs_length (hzr c)
      simp at this
      omega
    have hnil : ∀ (base : Option Addr) (cap : Nat), a.eval ox = .slice base 0 cap → (execOp a.eval o).run P c.w = .ok (.value (.tuple #[])) c.w := by
      intro base cap e
      cases base <;> simp [execOp, ho, resolve, invoke, builtin, Builtin.clear_, e, run_underlying (tSlice_spec ht)]
    have hexec : ∀ (ad : Addr) (n cap : Nat) (w' : World), n ≠ 0 → a.eval ox = .slice (some ad) n cap → (storeCells ad (Builtin.zeroCells z.cells n).toList).run P c.w = .ok () w' → (execOp a.eval o).run P c.w = .ok (.value (.tuple #[])) w' := by
      intro ad n cap w' hn e hst
      obtain ⟨n, rfl⟩ := Nat.exists_eq_succ_of_ne_zero hn
      simp [execOp, ho, resolve, invoke, builtin, Builtin.clear_, e, run_underlying (tSlice_spec ht), zeroValue_run hz, hst]
    have hlen : ∀ n, (Builtin.zeroCells z.cells n).toList.length = n * size := fun n => by simp [size_zeroCells, hzsz]
    have hone : ∀ n, ∀ v ∈ (Builtin.zeroCells z.cells n).toList, v.oneCell' = true := fun n v hv => by
      simp only [Builtin.zeroCells, Array.toList_map, Array.toList_range, List.mem_map, List.mem_range] at hv
      obtain ⟨i, hi', rfl⟩ := hv
      have hpos : 0 < z.cells.size := by
        rcases Nat.eq_zero_or_pos z.cells.size with h0 | h0
        · rw [h0] at hi'; simp at hi'
        · exact h0
      have hlt : i % z.cells.size < z.cells.size := Nat.mod_lt _ hpos
      rw [getElem!_pos z.cells _ hlt]
      exact hz1 _ (by simp)
    have hget : ∀ n, ∀ i j, i < n → j < size → ∃ u, (Builtin.zeroCells z.cells n).toList[i * size + j]? = some u ∧ RelC c.w c.I (zl.getD j (.b false)) u := fun n i j hi' hj' => by
      have hlt : i * size + j < n * size := by
        have : (i + 1) * size ≤ n * size := Nat.mul_le_mul_right _ (by omega)
        rw [Nat.add_mul, Nat.one_mul] at this
        omega
      have hmod : (i * size + j) % size = j := by
        rw [Nat.add_comm, Nat.add_mul_mod_self_right]
        exact Nat.mod_eq_of_lt hj'
      obtain ⟨u, hu, hru⟩ := RelVs_get (hzr c) j (zs[j]'(by omega)) (List.getElem?_eq_getElem _)
      obtain ⟨q, hc1, hc2⟩ := hcvg j (zs[j]'(by omega)) (List.getElem?_eq_getElem _)
      refine ⟨u, ?_, ?_⟩
      · have hu' : z.cells[j]? = some u := by simpa using hu
        simp only [Builtin.zeroCells, Array.toList_map, Array.toList_range, hzsz]
        rw [List.getElem?_map, List.getElem?_range hlt]
        simp [hmod, getElem!_def, hu']
      · simp only [List.getD_eq_getElem?_getD, hc1]
        exact AV.cv_rel hc2 hru
    -- nothing to clear: the rows are as they were
    have still : ∀ {id n start : Nat} {cell : Nat → Nat → CV}, lk id σ.H = some (.rows n size cell) → HOk W c ((id, .rows n size (cpCell start 0 cell fun _ j => zl.getD j (.b false))) :: σ.H) σ.nxt := by
      intro id n start cell hl
      have hsame : ∀ b, BlkRel c (.rows n size cell) b → BlkRel c (.rows n size (cpCell start 0 cell fun _ j => zl.getD j (.b false))) b := by
        rintro b ⟨arr, ty, fr, h1, h2, h3, h4⟩
        refine ⟨arr, ty, fr, h1, h2, h3, fun i j hi hj => ?_⟩
        rw [cpCell_out (by omega)]
        exact h4 i j hi hj
      refine ⟨fun i q hq => ?_, fun i q hq hl' => ?_, fun i i' q q' b h1 h2 l1 l2 e1 e2 => ?_, hh.fresh, hh.bound, hh.room⟩
      · rw [lk_cons] at hq
        by_cases hc : i = id
        · rw [hc]; exact hh.keys id _ hl
        · rw [if_neg hc] at hq; exact hh.keys i q hq
      · rw [lk_cons] at hq
        by_cases hc : i = id
        · rw [if_pos hc] at hq
          cases hq
          rcases hh.blk id _ hl rfl with ⟨f1, f2⟩ | ⟨b, f1, f2, f3, f4, f5⟩
          · exact .inl ⟨f1, by rw [hc]; exact f2⟩
          · exact .inr ⟨b, by rw [hc]; exact f1, f2, f3, f4, hsame b f5⟩
        · rw [if_neg hc] at hq; exact hh.blk i q hq hl'
      · have key : ∀ j r, lk j ((id, .rows n size (cpCell start 0 cell fun _ j => zl.getD j (.b false))) :: σ.H) = some r → ∃ r', lk j σ.H = some r' ∧ r'.live = r.live := fun j r hj => by
          rw [lk_cons] at hj
          by_cases hc : j = id
          · rw [if_pos hc] at hj; cases hj; exact ⟨.rows n size cell, by rw [hc]; exact hl, rfl⟩
          · rw [if_neg hc] at hj; exact ⟨r, hj, rfl⟩
        obtain ⟨r1, a1, a2⟩ := key i q h1
        obtain ⟨r2, b1, b2⟩ := key i' q' h2
        exact hh.inj i i' r1 r2 b a1 b1 (a2.trans l1) (b2.trans l2) e1 e2
    have tup : ∀ y, RelV y (.tup []) (.tuple #[]) := fun y => by simp only [RelV]; exact ⟨#[], rfl, by simp [RelVs]⟩
    cases dv with
    | nils =>
      simp only [RelV] at rd
      exact ⟨_, _, c, _, hdv, rfl, .inl (hnil none 0 rd), Step.refl W c, hh, tup _⟩
    | sl id size' start dl =>
      simp only at hdv
      cases q1 : Nat.beq size size' with
      | false => simp [q1] at hdv
      | true =>
        cases hl : lk id σ.H with
        | none => simp [q1, hl] at hdv
        | some blk =>
          cases blk with
          | rows n size'' cell =>
            simp only [q1, hl] at hdv
            cases q2 : Nat.beq size size'' with
            | false => simp [q2] at hdv
            | true =>
              simp only [q2] at hdv
              obtain rfl := Nat.eq_of_beq_eq_true q1
              obtain rfl := Nat.eq_of_beq_eq_true q2
              simp only [RelV] at rd
              rcases rd with ⟨rfl, e⟩ | ⟨b, cap, off, hloc, e, hcap, hoff, cs, ty, fr, hheap, hsz⟩
              · exact ⟨_, _, c, _, hdv, rfl, .inl (hnil none 0 e), Step.refl W c, still hl, tup _⟩
              · by_cases hd0 : dl = 0
                · subst hd0
                  exact ⟨_, _, c, _, hdv, rfl, .inl (hnil _ cap e), Step.refl W c, still hl, tup _⟩
                · obtain ⟨y, r1, r2, r3⟩ := rows_write (P := P) hh hl hloc hheap hoff hcap hsz (hlen dl) (hone dl) (nw := fun _ j => zl.getD j (.b false)) (hget dl) n (Nat.le_max_left _ _) (.inr (Nat.le_refl _))
                  exact ⟨_, _, y, _, hdv, rfl, .inl (hexec _ dl cap y.w hd0 e r1), r2, r3, tup _⟩
          | _ => simp [q1, hl] at hdv
    | sk id size' start dl cap =>
      simp only at hdv
      cases q1 : Nat.beq size size' with
      | false => simp [q1] at hdv
      | true =>
        cases hl : lk id σ.H with
        | none => simp [q1, hl] at hdv
        | some blk =>
          cases blk with
          | rows n size'' cell =>
            simp only [q1, hl] at hdv
            cases q2 : Nat.beq size size'' with
            | false => simp [q2] at hdv
            | true =>
              simp only [q2] at hdv
              obtain rfl := Nat.eq_of_beq_eq_true q1
              obtain rfl := Nat.eq_of_beq_eq_true q2
              simp only [RelV] at rd
              obtain ⟨b, off, hloc, e, hcap, hoff, cs, ty, fr, hheap, hsz⟩ := rd
              by_cases hd0 : dl = 0
              · subst hd0
                exact ⟨_, _, c, _, hdv, rfl, .inl (hnil _ cap e), Step.refl W c, still hl, tup _⟩
              · obtain ⟨y, r1, r2, r3⟩ := rows_write (P := P) hh hl hloc hheap hoff hcap hsz (hlen dl) (hone dl) (nw := fun _ j => zl.getD j (.b false)) (hget dl) n (Nat.le_max_left _ _) (.inr (Nat.le_refl _))
                exact ⟨_, _, y, _, hdv, rfl, .inl (hexec _ dl cap y.w hd0 e r1), r2, r3, tup _⟩
          | _ => simp [q1, hl] at hdv
    | _ => exact hdv.elim

theorem hop_eqn {t el t' : TypeId} {ox : Operand} {x : X} {ne : Bool} (ho : o.op = .binOp (if ne then .neq else .eql) t ox (.const (.slice none 0 0)) t') (ht : tSlice P t = some el) (hx : convX ox = some x) (h : hop (.eqn ne x) σ K) : HSound P W o σ K := by
  obtain ⟨v, hv, hr⟩ := gx_sound hx h
  intro c a hh he
  have rx := hr c a (he.on fun t ht => by cases ne <;> simp [ho, Op.operands, convX_tmps hx t ht])
  have hexec : ∀ (A : Option Addr) (l cap : Nat), a.eval ox = .slice A l cap → (execOp a.eval o).run P c.w = .ok (.value (.bool (A.isNone ^^ ne))) c.w := by
    intro A l cap e
    have hu := tSlice_spec ht
    have hd : ∀ (d : Nat) (w : World), (Op.equalIn (d + 1) t (.slice A l cap) (.slice none 0 0)).run P w = .ok A.isNone w := fun d w => by
      cases A <;> simp [Op.equalIn, run_underlying hu]
    have heq : ∀ w : World, (Op.equal t (.slice A l cap) (.slice none 0 0)).run P w = .ok A.isNone w := fun w => by
      unfold Op.equal Op.maxDepth
      exact hd 9999 w
    have en : a.eval (.const (.slice none 0 0)) = .slice none 0 0 := rfl
    cases ne with
    | true => simp [execOp, ho, e, en, eqGuard, binOp, heq]
    | false => simp [execOp, ho, e, en, eqGuard, binOp, heq]
  have bool : ∀ b : Bool, RelV c (.b b) (.bool b) := fun b => by simp only [RelV]
  cases v with
  | nils =>
    simp only [RelV] at rx
    exact ⟨_, _, c, _, hv, rfl, .inl (hexec none 0 0 rx), Step.refl W c, hh, by simpa using bool (!ne)⟩
  | sk id size st n cap =>
    simp only [RelV] at rx
    obtain ⟨b, off, _, e, _⟩ := rx
    exact ⟨_, _, c, _, hv, rfl, .inl (hexec _ _ _ e), Step.refl W c, hh, by simpa using bool ne⟩
  | sa id size st n =>
    simp only [RelV] at rx
    obtain ⟨b, cap, off, _, e, _⟩ := rx
    exact ⟨_, _, c, _, hv, rfl, .inl (hexec _ _ _ e), Step.refl W c, hh, by simpa using bool ne⟩
  | fs n size cell =>
    simp only [RelV] at rx
    obtain ⟨A, cap, e, _, hc⟩ := rx
    refine ⟨_, _, c, _, hv A.isNone (fun hA => ?_), rfl, .inl (hexec _ _ _ e), Step.refl W c, hh, bool _⟩
    rcases Nat.eq_zero_or_pos n with h0 | h0
    · exact h0
    · obtain ⟨ad, rfl, _⟩ := hc (by omega)
      simp at hA
  | sl id size st n =>
    simp only [RelV] at rx
    rcases rx with ⟨rfl, e⟩ | ⟨b, cap, off, _, e, _⟩
    · exact ⟨_, _, c, _, hv true (fun _ => rfl), rfl, .inl (hexec _ _ _ e), Step.refl W c, hh, bool _⟩
    · exact ⟨_, _, c, _, hv false (fun h => by cases h), rfl, .inl (hexec _ _ _ e), Step.refl W c, hh, bool _⟩
  | _ => exact hv.elim

theorem hop_eqi {t t' : TypeId} {ms : Array (String × TypeId)} {ox : Operand} {x : X} {ne : Bool} (ho : o.op = .binOp (if ne then .neq else .eql) t ox (.const .nilIface) t') (ht : P.underlying t = some (.interface ms)) (hx : convX ox = some x) (h : hop (.eqi ne x) σ K) : HSound P W o σ K := by
  obtain ⟨v, hv, hr⟩ := gx_sound hx h
  intro c a hh he
  have rx := hr c a (he.on fun t ht => by cases ne <;> simp [ho, Op.operands, convX_tmps hx t ht])
  have bool : ∀ b : Bool, RelV c (.b b) (.bool b) := fun b => by simp only [RelV]
  have en : a.eval (.const .nilIface) = .nilIface := rfl
  have hd : ∀ (d : Nat) (w : World) (v : Value), v = .nilIface ∨ (∃ te pe, v = .iface te pe) → (Op.equalIn (d + 1) t v .nilIface).run P w = .ok (v matches .nilIface) w := fun d w v hv => by
    rcases hv with rfl | ⟨te, pe, rfl⟩ <;> simp [Op.equalIn, run_underlying ht]
  have heq : ∀ (w : World) (v : Value), v = .nilIface ∨ (∃ te pe, v = .iface te pe) → (Op.equal t v .nilIface).run P w = .ok (v matches .nilIface) w := fun w v hv => by
    unfold Op.equal Op.maxDepth
    exact hd 9999 w v hv
  cases v with
  | raw u =>
    simp only [RelV] at rx
    obtain ⟨e, _⟩ := rx
    cases u with
    | nilIface =>
      refine ⟨_, _, c, .bool (!ne), hv, rfl, .inl ?_, Step.refl W c, hh, bool _⟩
      cases ne with
      | true => simp [execOp, ho, e, en, eqGuard, binOp, heq]
      | false => simp [execOp, ho, e, en, eqGuard, binOp, heq]
    | iface te pe =>
      refine ⟨_, _, c, .bool ne, hv, rfl, .inl ?_, Step.refl W c, hh, bool _⟩
      cases ne with
      | true => simp [execOp, ho, e, en, eqGuard, binOp, heq]
      | false => simp [execOp, ho, e, en, eqGuard, binOp, heq]
    | _ => exact hv.elim
  | _ => exact hv.elim

theorem hop_s2b {t t' el : TypeId} {ox : Operand} {x : X} (ho : o.op = .convert t t' ox) (ht : P.underlying t = some .string) (ht' : tSlice P t' = some el) (he : P.underlying el = some (.int .u8)) (hx : convX ox = some x) (h : hop (.s2b x) σ K) : HSound P W o σ K := by
  obtain ⟨v, hv, hr⟩ := gx_sound hx h
  intro c a hh hk
  have rx := hr c a (hk.on fun t ht => by simp [ho, Op.operands, convX_tmps hx t ht])
  cases v with
  | s s =>
    simp only [RelV] at rx
    have old := Lib.bytesWorld_at_old c.w el s
    have hsz := Lib.bytesWorld_size c.w el s
    let y : Cx := { w := Lib.bytesWorld c.w el s, I := fun k => c.I k ∨ k = c.w.heap.size, loc := c.loc }
    have hst : Step W c y := by
      refine ⟨⟨fun _ _ e => e, fun _ h => .inl h, fun k hk => old k (hh.bound k hk), by simp only [y]; omega, fun k cs ty fr e => ⟨cs, fr, ?_, rfl⟩⟩, rfl, rfl, rfl, fun k hk => ?_, fun k hk => ?_⟩
      · exact (old k (Array.getElem?_eq_some_iff.1 e).1).trans e
      · exact old k (Nat.lt_of_not_le fun hle => hk (hh.room k hle))
      · rcases hk with hk | hk
        · exact .inl hk
        · exact .inr (hh.room k (Nat.le_of_eq hk.symm))
    refine ⟨_, _, y, .slice (some ⟨c.w.heap.size, 0, none⟩) s.size (grownCap c.w s.size 0 el), hv, rfl, .inl ?_, hst, ?_, ?_⟩
    · have := Lib.run_convert_string_bytes (P := P) c.w t t' el s ht (tSlice_spec ht') he
      simp [execOp, ho, rx, this, y]
    · refine ⟨hh.keys, fun id k hk hl => ?_, hh.inj, hh.fresh, hh.bound.ext hst.ext fun k hk => ?_, fun b hb => hh.room b (by simp only [y] at hb; omega)⟩
      · rcases hh.blk id k hk hl with f | ⟨b, e1, e2, e3, e4, e5⟩
        · exact .inl f
        · refine .inr ⟨b, e1, e2, ?_, by simp only [y]; omega, e5.mono hst.ext (old b e4)⟩
          rintro (hb | hb)
          · exact e3 hb
          · omega
      · rcases hk with hk | hk
        · have := hh.bound k hk
          simp only [y]
          omega
        · simp only [y]
          omega
    · simp only [RelV, RelC]
      refine ⟨_, _, rfl, ?_, fun hn => ⟨_, rfl, .inr rfl, fun i j hi hj => ⟨_, ?_, rfl⟩⟩⟩
      · have := grownCap_ge c.w s.size 0 el
        omega
      · have hj0 : j = 0 := by omega
        subst hj0
        rw [add_plain]
        have := Lib.bytesWorld_cell c.w el s i hi
        simpa [y] using this
  | _ => exact hv.elim

end
end Go.Hb

namespace Go.Hb
open Go.RowKit
variable [Amb]

/-- A call, in our words. -/
structure XCall (P : Program) (f : FuncId) (args : List AV) (H : List (Nat × Blk)) (nxt : Nat) (K : AV → List (Nat × Blk) → Nat → Prop) : Prop where
  go : ∀ (W : Nat → Prop) (x : Cx) (vals : Array Value), HOk W x H nxt → RelVs x args vals.toList →
    ((callFunc f vals).run P x.w = .ok (.enter f vals) x.w ∧ Calls P f vals x.w fun e w' => ∃ v, e = .returned v ∧ ∃ y r H' n', y.w = w' ∧ K r H' n' ∧ Step W x y ∧ HOk W y H' n' ∧ RelV y r v) ∨
    ∃ v y r H' n', (callFunc f vals).run P x.w = .ok (.value v) y.w ∧ K r H' n' ∧ Step W x y ∧ HOk W y H' n' ∧ RelV y r v

theorem XCall.mono {P : Program} {f : FuncId} {args : List AV} {H : List (Nat × Blk)} {nxt : Nat} {K K' : AV → List (Nat × Blk) → Nat → Prop} (h : XCall P f args H nxt K) (hk : ∀ r H' n', K r H' n' → K' r H' n') : XCall P f args H nxt K' := by
  refine ⟨fun W x vals hh hr => ?_⟩
  rcases h.go W x vals hh hr with ⟨h1, h2⟩ | ⟨v, y, r, H', n', h1, h2, h3⟩
  · exact .inl ⟨h1, h2.mono fun e w' ⟨v, he, y, r, H', n', hw, hK, hs⟩ => ⟨v, he, y, r, H', n', hw, hk _ _ _ hK, hs⟩⟩
  · exact .inr ⟨v, y, r, H', n', h1, hk _ _ _ h2, h3⟩

inductive MI where
  | l (d : Option Nat) (sp : Bool) (g : Option (Nat × Bool)) (o : MO)
  | h (d : Option Nat) (g : Option (Nat × Bool)) (o : HO)

def gd (env : List (Nat × AV)) (g : Option (Nat × Bool)) (run skip : Prop) : Prop :=
  match g with
  | none => run
  | some (t, want) => match lk t env with
    | some .tt => (match want with
      | true => run
      | false => skip)
    | some .ff => (match want with
      | true => skip
      | false => run)
    | some (.tup []) => skip
    | some (.b x) => (match want with
      | true => brk x run skip
      | false => brk x skip run)
    | _ => False

def spl (sp : Bool) (v : AV) (K : AV → Prop) : Prop :=
  match sp with
  | false => K v
  | true => match v with
    | .b x => brk x (K .tt) (K .ff)
    | v => K v

def hcall (P : Program) (f : X) (xs : List X) (σ : St) (K : AV → St → Prop) : Prop :=
  gx σ.env (fun fv => gxs σ.env xs fun as => match fv with
    | .fn (.func f) first caps => XCall P f (first ++ (as ++ caps)) σ.H σ.nxt fun r H' n' => K r { env := σ.env, H := H', nxt := n' }
    | _ => False) f

def aops (P : Program) : List MI → St → (St → Prop) → Prop
  | [], σ, K => K σ
  | .l d sp g o :: r, σ, K => gd σ.env g (lop σ.env σ.H o fun v _ => spl sp v fun v' => aops P r (σ.put d v') K) (aops P r (σ.put d (.tup [])) K)
  | .h d g o :: r, σ, K => gd σ.env g (match o with
    | .call f xs => hcall P f xs σ fun v σ' => aops P r (σ'.put d v) K
    | o => hop o σ fun v σ' => aops P r (σ'.put d v) K) (aops P r (σ.put d (.tup [])) K)

/-! ### The conversion of operations -/

def convGuard (ops : Array Oper) : Option (Nat × Bool) → Option (Option (Nat × Bool))
  | none => some none
  | some (j, want) => match (ops[j]?).bind (·.dst) with
    | some t => some (some (t, want))
    | none => none

def convArr (l : Array Operand) : Option (List X) := convXs l.toList

/-- An operation that only computes. -/
def convL (P : Program) (o : Op) : Option MO :=
  match o with
  | .move x => (convX x).map .mv
  | .assign x => (convX x).map .mv
  | .pick c a b => match convX c, convX a, convX b with
    | some c, some a, some b => some (.pick c a b)
    | _, _, _ => none
  | .load t x => match convX x, tSize P t, tAgg P t with
    | some x, some sz, some ag => some (.load sz ag x)
    | _, _, _ => none
  | .binOp op t x y _ => match convX x, convX y, P.underlying t with
    | some x, some y, some (.int _) => some (.bin op x y)
    | some x, some y, some .string => some (.bin op x y)
    | some x, some y, some .bool => (match op with
      | .eql => some (.eqB false x y)
      | .neq => some (.eqB true x y)
      | _ => none)
    | some x, some y, some _ => (match eqKs P t, P.eqGuardType P.depth t with
      | some ks, false => (match op with
        | .eql => some (.eqA false ks x y)
        | .neq => some (.eqA true ks x y)
        | _ => none)
      | _, _ => none)
    | _, _, _ => none
  | .unOp op _ x => (convX x).map (.un op)
  | .fieldAddr t x f => match convX x, tField P t f with
    | some x, some (off, ft) => (match tSize P ft with
      | some (n + 1) => some (.faddr off x)
      | _ => none)
    | _, _ => none
  | .field t x f => match convX x, tField P t f with
    | some x, some (off, ft) => (match tSize P ft, tAgg P ft with
      | some n, some ag => some (.field off n ag x)
      | _, _ => none)
    | _, _ => none
  | .indexAddr t x i => match convX x, convX i with
    | some x, some i => (match tSlice P t with
      | some e => (tSize P e).map fun s => .iaddr s x i
      | none => match tArray P t with
        | some (n, e) => (tSize P e).map fun s => .iaddrA n s x i
        | none => none)
    | _, _ => none
  | .index t x i => match convX x, convX i, P.underlying t with
    | some x, some i, some .string => some (.idxS x i)
    | some x, some i, some (.array n e) => (match tSize P e, tAgg P e with
      | some s, some ag => some (.idxA n s ag x i)
      | _, _ => none)
    | _, _, _ => none
  | .extract x i => (convX x).map fun x => .ext x i
  | .call { callee := .builtin .len, args, argTypes } => match args.toList, argTypes.toList with
    | [x], [t] => (match convX x, P.underlying t with
      | some x, some .string => some (.len true x)
      | some x, some (.slice _) => some (.len false x)
      | _, _ => none)
    | _, _ => none
  | .call { callee := .builtin .cap, args, argTypes } => match args.toList, argTypes.toList with
    | [x], [t] => (match convX x, tSlice P t with
      | some x, some _ => some (.cap x)
      | _, _ => none)
    | _, _ => none
  | .call { callee := .builtin .max, args, .. } => match args.toList with
    | [x, y] => (match convX x, convX y with
      | some x, some y => some (.mm true x y)
      | _, _ => none)
    | _ => none
  | .call { callee := .builtin .min, args, .. } => match args.toList with
    | [x, y] => (match convX x, convX y with
      | some x, some y => some (.mm false x y)
      | _, _ => none)
    | _ => none
  | .convert t t' x => match convX x, P.underlying t, P.underlying t' with
    | some x, some (.int _), some (.int k) => some (.conv k x)
    | some x, some .string, some .string => some (.slcS x none none)
    | some x, some (.slice e), some .string => (match P.underlying e with
      | some (.int .u8) => some (.b2s x)
      | _ => none)
    | _, _, _ => none
  | .slice t x lo (some h) (some m) => match convX x, convXo lo, convX h, convX m with
    | some x, some lo, some hi, some m => (match tSlice P t with
      | some e => (tSize P e).map fun s => .slc3 s x lo (some hi) m
      | none => none)
    | _, _, _, _ => none
  | .slice t x lo hi none => match convX x, convXo lo, convXo hi with
    | some x, some lo, some hi => (match P.underlying t with
      | some .string => some (.slcS x lo hi)
      | some (.slice e) => (tSize P e).map fun s => .slc s x lo hi
      | some (.array n e) => (tSize P e).map fun s => .slcA n s x lo hi
      | _ => none)
    | _, _, _ => none
  | .makeFunc f first caps => match convArr first, convArr caps with
    | some a, some c => some (.mkfn f a c)
    | _, _ => none
  | .nilCheck x => (convX x).map .nilck
  | .build t parts => match zCells P t, P.underlying t with
    | some zs, some (.struct fs) => (match fs.toList.all fun f => (tSize P f.type).isSome with
      | true => (convParts (fieldPl P fs) parts.toList).map fun ps => .build zs ps
      | false => none)
    | some zs, some (.array _ e) => (match tSize P e with
      | some s => (convParts (arrPl s) parts.toList).map fun ps => .build zs ps
      | none => none)
    | _, _ => none
  | _ => none

def MO.tmps : MO → List Nat
  | .mv x | .un _ x | .faddr _ x | .field _ _ _ x | .ext x _ | .len _ x | .conv _ x | .nilck x | .load _ _ x => x.tmps
  | .pick c a b => c.tmps ++ (a.tmps ++ b.tmps)
  | .bin _ x y | .eqB _ x y | .iaddr _ x y | .iaddrA _ _ x y | .idxS x y => x.tmps ++ y.tmps
  | .slcS x lo hi | .slc _ x lo hi | .slcA _ _ x lo hi => x.tmps ++ (tmpsO lo ++ tmpsO hi)
  | .mkfn _ a c => tmpsOf a ++ tmpsOf c
  | .build _ ps => tmpsParts ps
  | .cap x | .b2s x => x.tmps
  | .mm _ x y | .idxA _ _ _ x y | .eqA _ _ x y => x.tmps ++ y.tmps
  | .slc3 _ x lo hi m => x.tmps ++ (m.tmps ++ (tmpsO lo ++ tmpsO hi))

theorem lop_sound {P : Program} {env : List (Nat × AV)} {H : List (Nat × Blk)} {K : AV → Option Nat → Prop} {o : Oper} {m : MO} (hc : convL P o.op = some m) (h : lop env H m K) :
    ∃ v t, K v t ∧ Ylds P o m.tmps env H v t := by
  obtain ⟨dst, op, ty, pos, after, guard⟩ := o
  simp only at hc
  cases op with
  | move x =>
    simp only [convL, Option.map_eq_some_iff] at hc
    obtain ⟨x', hx, rfl⟩ := hc
    exact lop_mv (.inl rfl) hx h
  | assign x =>
    simp only [convL, Option.map_eq_some_iff] at hc
    obtain ⟨x', hx, rfl⟩ := hc
    exact lop_mv (.inr rfl) hx h
  | pick c a b =>
    simp only [convL] at hc
    split at hc
    · cases hc; exact lop_pick rfl ‹_› ‹_› ‹_› h
    · cases hc
  | load t x =>
    simp only [convL] at hc
    split at hc
    · cases hc; exact lop_load rfl ‹_› ‹_› ‹_› h
    · cases hc
  | binOp op t x y t' =>
    simp only [convL] at hc
    split at hc
    · cases hc; exact lop_bin rfl ‹_› ‹_› h
    · cases hc; exact lop_bin rfl ‹_› ‹_› h
    · rename_i h1 h2 h3
      split at hc
      · cases hc; exact lop_eqB rfl h3 h1 h2 h
      · cases hc; exact lop_eqB rfl h3 h1 h2 h
      · cases hc
    · rename_i h1 h2 _ _ _ _
      split at hc
      · rename_i h4 h5
        split at hc
        · cases hc; exact lop_eqA (ne := false) rfl h4 h5 ‹convX x = some _› ‹convX y = some _› h
        · cases hc; exact lop_eqA (ne := true) rfl h4 h5 ‹convX x = some _› ‹convX y = some _› h
        · cases hc
      · cases hc
    · cases hc
  | unOp op t x =>
    simp only [convL, Option.map_eq_some_iff] at hc
    obtain ⟨x', hx, rfl⟩ := hc
    exact lop_un rfl hx h
  | fieldAddr t x f =>
    simp only [convL] at hc
    split at hc
    · rename_i h1 h2
      split at hc
      · rename_i h3; cases hc; exact lop_faddr rfl h2 h3 (by omega) h1 h
      · cases hc
    · cases hc
  | field t x f =>
    simp only [convL] at hc
    split at hc
    · rename_i h1 h2
      split at hc
      · rename_i h3 h4; cases hc; exact lop_field rfl h2 h4 h3 h1 h
      · cases hc
    · cases hc
  | indexAddr t x i =>
    simp only [convL] at hc
    split at hc
    · rename_i h1 h2
      split at hc
      · rename_i h3
        obtain ⟨s, hs, rfl⟩ := Option.map_eq_some_iff.1 hc
        exact lop_iaddr rfl h3 hs h1 h2 h
      · split at hc
        · rename_i h3
          obtain ⟨s, hs, rfl⟩ := Option.map_eq_some_iff.1 hc
          exact lop_iaddrA rfl h3 hs h1 h2 h
        · cases hc
    · cases hc
  | index t x i =>
    simp only [convL] at hc
    split at hc
    · cases hc; exact lop_idxS rfl ‹_› ‹_› ‹_› h
    · rename_i h1 h2 h3
      split at hc
      · rename_i h4 h5
        cases hc
        exact lop_idxA rfl (by simp only [tArray, h3]) h4 h5 h1 h2 h
      · cases hc
    · cases hc
  | extract x i =>
    simp only [convL, Option.map_eq_some_iff] at hc
    obtain ⟨x', hx, rfl⟩ := hc
    exact lop_ext rfl hx h
  | call c =>
    obtain ⟨callee, args, argTypes⟩ := c
    cases callee with
    | builtin b =>
      cases b <;> simp only [convL] at hc <;> try cases hc
      · split at hc
        · rename_i x t ha ht
          have ea : args = #[x] := by apply Array.ext'; simpa using ha
          have et : argTypes = #[t] := by apply Array.ext'; simpa using ht
          subst ea; subst et
          split at hc
          · rename_i h1 h2; cases hc; exact lop_cap rfl h2 h1 h
          · cases hc
        · cases hc
      · split at hc
        · rename_i x t ha ht
          have ea : args = #[x] := by apply Array.ext'; simpa using ha
          have et : argTypes = #[t] := by apply Array.ext'; simpa using ht
          subst ea; subst et
          split at hc
          · rename_i h1 h2; cases hc; exact lop_lenS rfl h2 h1 h
          · rename_i el h1 h2; cases hc; exact lop_lenL (el := el) rfl (by simp [tSlice, h2]) h1 h
          · cases hc
        · cases hc
      · split at hc
        · rename_i x y ha
          have ea : args = #[x, y] := by apply Array.ext'; simpa using ha
          subst ea
          split at hc
          · rename_i h1 h2; cases hc; exact lop_mm (mx := true) rfl h1 h2 h
          · cases hc
        · cases hc
      · split at hc
        · rename_i x y ha
          have ea : args = #[x, y] := by apply Array.ext'; simpa using ha
          subst ea
          split at hc
          · rename_i h1 h2; cases hc; exact lop_mm (mx := false) rfl h1 h2 h
          · cases hc
        · cases hc
    | _ => simp [convL] at hc
  | convert t t' x =>
    simp only [convL] at hc
    split at hc
    · cases hc; exact lop_conv rfl ‹_› ‹_› ‹_› h
    · cases hc
      rename_i h1 h2 h3
      obtain ⟨v, t, hK, hy⟩ := lop_convS (P := P) (o := ⟨dst, .convert t t' x, ty, pos, after, guard⟩) rfl h2 h3 h1 h
      exact ⟨v, t, hK, fun x a hk => hy x a (hk.sub fun t ht => by simp [MO.tmps, ht])⟩
    · rename_i h1 h2 h3
      split at hc
      · rename_i h4
        cases hc
        exact lop_b2s rfl (by simp only [tSlice, h2]) h4 h3 h1 h
      · cases hc
    · cases hc
  | slice t x lo hi mx =>
    cases mx with
    | some m =>
      cases hi with
      | none => simp [convL] at hc
      | some hi =>
        simp only [convL] at hc
        split at hc
        · rename_i h1 h2 h3 h4
          split at hc
          · rename_i h5
            obtain ⟨s, hs, rfl⟩ := Option.map_eq_some_iff.1 hc
            exact lop_slc3 rfl (by simp) h5 hs h1 h2 (by simp [convXo, h3]) h4 h
          · cases hc
        · cases hc
    | none =>
      simp only [convL] at hc
      split at hc
      · rename_i h1 h2 h3
        split at hc
        · rename_i h4; cases hc; exact lop_slcS rfl h4 h1 h2 h3 h
        · rename_i h4
          obtain ⟨s, hs, rfl⟩ := Option.map_eq_some_iff.1 hc
          exact lop_slc rfl (by simp [tSlice, h4]) hs h1 h2 h3 h
        · rename_i h4
          obtain ⟨s, hs, rfl⟩ := Option.map_eq_some_iff.1 hc
          exact lop_slcA rfl (by simp [tArray, h4]) hs h1 h2 h3 h
        · cases hc
      · cases hc
  | makeFunc f first caps =>
    simp only [convL, convArr] at hc
    split at hc
    · cases hc; exact lop_mkfn rfl ‹_› ‹_› h
    · cases hc
  | nilCheck x =>
    simp only [convL, Option.map_eq_some_iff] at hc
    obtain ⟨x', hx, rfl⟩ := hc
    exact lop_nilck rfl hx h
  | build t parts =>
    simp only [convL] at hc
    split at hc
    · rename_i h1 h2
      split at hc
      · rename_i h3
        obtain ⟨ps, hp, rfl⟩ := Option.map_eq_some_iff.1 hc
        exact lop_buildS rfl h2 h3 h1 hp h
      · cases hc
    · rename_i h1 h2
      split at hc
      · rename_i h3
        obtain ⟨ps, hp, rfl⟩ := Option.map_eq_some_iff.1 hc
        exact lop_buildA (n := _) rfl (by simp only [tArray, h2]; rfl) h3 h1 hp h
      · cases hc
    · cases hc
  | _ => simp [convL] at hc

/-- An operation that does something. -/
def convH (P : Program) (o : Op) : Option HO :=
  match o with
  | .alloc t => (zCells P t).map .alloc
  | .box _ x => (convX x).map .box
  | .buildSlice t len parts => match tSlice P t with
    | some e => (match tSize P e, zCells P e with
      | some size, some zs => (match decide (len * size ≤ 2 ^ 24), decide (zs.length = size), convParts (arrPl size) parts.toList with
        | true, true, some ps => some (.bslice size len zs ps)
        | _, _, _ => none)
      | _, _ => none)
    | none => none
  | .store t a v => match tSize P t, convX a, convX v with
    | some sz, some a, some v => some (.store sz a v)
    | _, _, _ => none
  | .makeSlice t l c => match tSlice P t, convX l, convX c with
    | some e, some l, some c => (match P.info? e, zCells P e with
      | some ti, some zs => (match decide (1 ≤ ti.bytes), decide (zs.length = ti.size) with
        | true, true => some (.mks ti.size ti.bytes zs l c)
        | _, _ => none)
      | _, _ => none)
    | _, _, _ => none
  | .call { callee := .builtin .append, args, argTypes } => match args.toList, argTypes.toList with
    | [s, x], [t, t2] => (match convX s, convX x, tSlice P t with
      | some s, some x, some e => (match P.info? e, zCells P e with
        | some ti, some zs => (match decide (1 ≤ ti.bytes), decide (0 < ti.size), decide (zs.length = ti.size), (match P.underlying t2 with | some .string => true | some (.slice _) => true | _ => false) with
          | true, true, true, true => some (.app ti.size ti.bytes s x)
          | true, true, true, false => (match P.underlying t2 with
            | some (.int _) => some (.appz ti.size ti.bytes zs s x)
            | _ => none)
          | _, _, _, _ => none)
        | _, _ => none)
      | _, _, _ => none)
    | _, _ => none
  | .call { callee := .builtin .copy, args, argTypes } => match args.toList, argTypes.toList with
    | [d, s], [t, _] => (match convX d, convX s, tSlice P t with
      | some d, some s, some e => (tSize P e).map fun n => .copy n d s
      | _, _, _ => none)
    | _, _ => none
  | .call { callee := .builtin .clear, args, argTypes } => match args.toList, argTypes.toList with
    | [x], [t] => (match convX x, tSlice P t with
      | some x, some e => (zCells P e).map fun zs => .clear zs.length zs x
      | _, _ => none)
    | _, _ => none
  | .binOp op t x (.const (.slice none 0 0)) _ => match convX x, tSlice P t with
    | some x, some _ => (match op with
      | .eql => some (.eqn false x)
      | .neq => some (.eqn true x)
      | _ => none)
    | _, _ => none
  | .binOp op t x (.const .nilIface) _ => match convX x, P.underlying t with
    | some x, some (.interface _) => (match op with
      | .eql => some (.eqi false x)
      | .neq => some (.eqi true x)
      | _ => none)
    | _, _ => none
  | .convert t t' x => match convX x, P.underlying t, tSlice P t' with
    | some x, some .string, some el => (match P.underlying el with
      | some (.int .u8) => some (.s2b x)
      | _ => none)
    | _, _, _ => none
  | .call { callee := .value f, args, .. } => match convX f, convArr args with
    | some f, some xs => some (.call f xs)
    | _, _ => none
  | _ => none

def HO.isCall : HO → Bool
  | .call _ _ => true
  | _ => false

theorem hop_sound {P : Program} {W : Nat → Prop} {σ : St} {K : AV → St → Prop} {o : Oper} {m : HO} (hc : convH P o.op = some m) (hn : m.isCall = false) (h : hop m σ K) : HSound P W o σ K := by
  obtain ⟨dst, op, ty, pos, after, guard⟩ := o
  simp only at hc
  cases op with
  | alloc t =>
    simp only [convH, Option.map_eq_some_iff] at hc
    obtain ⟨zs, hz, rfl⟩ := hc
    exact (hop_alloc rfl hz h).to
  | box t x =>
    simp only [convH, Option.map_eq_some_iff] at hc
    obtain ⟨x', hx, rfl⟩ := hc
    exact (hop_box rfl hx h).to
  | buildSlice t len parts =>
    simp only [convH] at hc
    split at hc
    · rename_i h1
      split at hc
      · rename_i h2 h3
        split at hc
        · rename_i h4 h5 h6
          cases hc
          exact (hop_bslice rfl h1 h2 (of_decide_eq_true h4) h3 (of_decide_eq_true h5) h6 h).to
        · cases hc
      · cases hc
    · cases hc
  | store t a v =>
    simp only [convH] at hc
    split at hc
    · cases hc; exact (hop_store rfl ‹_› ‹_› ‹_› h).to
    · cases hc
  | makeSlice t l c =>
    simp only [convH] at hc
    split at hc
    · rename_i h1 h2 h3
      split at hc
      · rename_i h4 h5
        split at hc
        · rename_i h6 h7
          cases hc
          exact (hop_mks rfl h1 h4 rfl rfl (of_decide_eq_true h6) h5 (of_decide_eq_true h7) h2 h3 h).to
        · cases hc
      · cases hc
    · cases hc
  | call c =>
    obtain ⟨callee, args, argTypes⟩ := c
    cases callee with
    | builtin b =>
      cases b <;> simp only [convH] at hc <;> try cases hc
      · split at hc
        · rename_i s x t t2 ha ht
          have ea : args = #[s, x] := by apply Array.ext'; simpa using ha
          have et : argTypes = #[t, t2] := by apply Array.ext'; simpa using ht
          subst ea; subst et
          split at hc
          · rename_i h1 h2 h3
            split at hc
            · rename_i h4 h5
              split at hc
              · rename_i h6 h7 h8 h9
                cases hc
                refine hop_app rfl h3 ?_ h4 rfl rfl (of_decide_eq_true h6) (of_decide_eq_true h7) h5 (of_decide_eq_true h8) h1 h2 h
                revert h9
                split
                · exact fun _ => .inl ‹_›
                · exact fun _ => .inr ⟨_, ‹_›⟩
                · intro h; cases h
              · rename_i h6 h7 h8 h9
                split at hc
                · rename_i h10
                  cases hc
                  exact hop_appz rfl h3 h10 h4 rfl rfl (of_decide_eq_true h6) (of_decide_eq_true h7) h5 (of_decide_eq_true h8) h1 h2 h
                · cases hc
              · cases hc
            · cases hc
          · cases hc
        · cases hc
      · split at hc
        · rename_i x t ha ht
          have ea : args = #[x] := by apply Array.ext'; simpa using ha
          have et : argTypes = #[t] := by apply Array.ext'; simpa using ht
          subst ea; subst et
          split at hc
          · rename_i h1 h2
            obtain ⟨zs, hz, rfl⟩ := Option.map_eq_some_iff.1 hc
            exact hop_clear rfl h2 hz rfl h1 h
          · cases hc
        · cases hc
      · split at hc
        · rename_i d s t t2 ha ht
          have ea : args = #[d, s] := by apply Array.ext'; simpa using ha
          have et : argTypes = #[t, t2] := by apply Array.ext'; simpa using ht
          subst ea; subst et
          split at hc
          · rename_i h1 h2 h3
            obtain ⟨n, hsz, rfl⟩ := Option.map_eq_some_iff.1 hc
            exact hop_copy rfl h3 hsz h1 h2 h
          · cases hc
        · cases hc
    | value f =>
      simp only [convH] at hc
      split at hc
      · cases hc; simp [HO.isCall] at hn
      · cases hc
    | _ => simp [convH] at hc
  | binOp op t x y t' =>
    unfold convH at hc
    split at hc
    all_goals first | (cases hc; done) | skip
    all_goals first | (rename_i e; cases e; done) | skip
    · rename_i e
      cases e
      split at hc
      · rename_i h1 h2
        split at hc
        · cases hc; exact hop_eqn (ne := false) rfl h2 h1 h
        · cases hc; exact hop_eqn (ne := true) rfl h2 h1 h
        · cases hc
      · cases hc
    · rename_i e
      cases e
      split at hc
      · rename_i h1 h2
        split at hc
        · cases hc; exact hop_eqi (ne := false) rfl h2 h1 h
        · cases hc; exact hop_eqi (ne := true) rfl h2 h1 h
        · cases hc
      · cases hc
  | convert t t' x =>
    simp only [convH] at hc
    split at hc
    · rename_i h1 h2 h3
      split at hc
      · rename_i h4
        cases hc
        exact hop_s2b rfl h2 h3 h4 h1 h
      · cases hc
    · cases hc
  | _ => simp [convH] at hc

/-- The shape of a call among our operations. -/
theorem convH_call {P : Program} {o : Op} {f : X} {xs : List X} (hh : convH P o = some (.call f xs)) : ∃ of oargs ats, o = .call { callee := .value of, args := oargs, argTypes := ats } ∧ convX of = some f ∧ convXs oargs.toList = some xs := by
  unfold convH at hh
  repeat' (first
    | (cases hh; done)
    | (obtain ⟨_, _, hh⟩ := Option.map_eq_some_iff.1 hh; cases hh; done)
    | split at hh)
  cases hh
  exact ⟨_, _, _, rfl, ‹convX _ = some _›, ‹convArr _ = some _›⟩

end Go.Hb

namespace Go.Hb
open Go.RowKit
variable [Amb]

/-- Is a slot's value asked by a guard of the region? -/
def isGuard (ops : Array Oper) (d : Option Tmp) : Bool :=
  match d with
  | none => false
  | some t => ops.any fun o => match o.guard with
    | some (j, _) => (ops[j]?).bind (·.dst) == some t
    | none => false

def dstOk (N : Nat) : Option Tmp → Bool
  | none => true
  | some t => Nat.blt t N

def convI (P : Program) (N : Nat) (ops : Array Oper) (o : Oper) : Option MI :=
  match dstOk N o.dst, convGuard ops o.guard with
  | true, some g => (match convL P o.op with
    | some m => some (.l o.dst (isGuard ops o.dst) g m)
    | none => (match convH P o.op with
      | some m => some (.h o.dst g m)
      | none => none))
  | _, _ => none

/-- An operation of which we know nothing: it must not be come to. -/
def badI (N : Nat) (ops : Array Oper) (o : Oper) : Option MI :=
  match dstOk N o.dst, convGuard ops o.guard with
  | true, some g => some (.h o.dst g (.call (.c .nils) []))
  | _, _ => none
def convI2 (P : Program) (N : Nat) (ops : Array Oper) (o : Oper) : Option MI :=
  match convI P N ops o with
  | some m => some m
  | none => badI N ops o

def convIs (P : Program) (N : Nat) (ops : Array Oper) : List Oper → Option (List MI)
  | [] => some []
  | o :: r => match convI2 P N ops o, convIs P N ops r with
    | some m, some ms => some (m :: ms)
    | _, _ => none

section
variable {P : Program} {W : Nat → Prop} {x0 : Cx} {N : Nat}

theorem dstOk_spec {d : Option Tmp} (h : dstOk N d = true) : ∀ t, d = some t → t < N := by
  intro t e
  subst e
  simpa [dstOk] using h

theorem undef_rel (x : Cx) : RelV x (.tup []) undef := by
  simp only [RelV]
  exact ⟨#[], rfl, by simp [RelVs]⟩

/-- A guard: whether the operation is wanted. -/
theorem gd_sound {ops : Array Oper} {o : Oper} {g : Option (Nat × Bool)} {env : List (Nat × AV)} {x : Cx} {tmps : Array Value} {run skip : Prop} (hg : convGuard ops o.guard = some g) (he : EnvOk x env tmps) (h : gd env g run skip) :
    (Region.wanted o (yielded ops tmps) = true ∧ run) ∨ (Region.wanted o (yielded ops tmps) = false ∧ skip) := by
  cases hog : o.guard with
  | none =>
    simp only [hog, convGuard, Option.some.injEq] at hg
    subst hg
    exact .inl ⟨by simp [Region.wanted, hog], h⟩
  | some q =>
    obtain ⟨j, want⟩ := q
    simp only [hog, convGuard] at hg
    split at hg
    · rename_i t ht
      simp only [Option.some.injEq] at hg
      subst hg
      have hy : yielded ops tmps j = match tmps[t]? with
          | some (.bool b) => some b
          | _ => none := by
        unfold yielded
        rw [ht]
        rfl
      simp only [gd] at h
      cases hl : lk t env with
      | none => simp [hl] at h
      | some v =>
        obtain ⟨u, hu, hr⟩ := he t v hl
        simp only [hl] at h
        have bool : ∀ b, u = .bool b → (match want, b with | true, true => run | true, false => skip | false, true => skip | false, false => run) →
            (Region.wanted o (yielded ops tmps) = true ∧ run) ∨ (Region.wanted o (yielded ops tmps) = false ∧ skip) := by
          intro b e hb
          subst e
          have hw : Region.wanted o (yielded ops tmps) = (b == want) := by
            simp only [Region.wanted, hog, hy, hu]
            cases b <;> cases want <;> rfl
          rw [hw]
          cases b <;> cases want <;> simp_all
        cases v with
        | tt => exact bool true (by simpa [RelV] using hr) (by cases want <;> exact h)
        | ff => exact bool false (by simpa [RelV] using hr) (by cases want <;> exact h)
        | b y =>
          have e : u = .bool y := by simpa [RelV] using hr
          cases y with
          | true => exact bool true e (by cases want <;> first | exact h.1 rfl | exact h.2 rfl)
          | false => exact bool false e (by cases want <;> first | exact h.2 rfl | exact h.1 rfl)
        | tup l =>
          cases l with
          | nil =>
            simp only [RelV] at hr
            obtain ⟨vs, e, _⟩ := hr
            subst e
            right
            refine ⟨?_, h⟩
            simp [Region.wanted, hog, hy, hu]
          | cons _ _ => exact h.elim
        | _ => exact h.elim
    · cases hg

theorem spl_sound {sp : Bool} {v : AV} {K : AV → Prop} (h : spl sp v K) : ∃ v', K v' ∧ ∀ x u, RelV x v u → RelV x v' u := by
  cases sp with
  | false => exact ⟨v, h, fun _ _ h => h⟩
  | true =>
    cases v with
    | b y =>
      cases y with
      | true => exact ⟨.tt, h.1 rfl, fun x u hr => by simpa [RelV] using hr⟩
      | false => exact ⟨.ff, h.2 rfl, fun x u hr => by simpa [RelV] using hr⟩
    | _ => exact ⟨_, h, fun _ _ h => h⟩

theorem SRel.putU {σ : St} {a : Act} {w : World} {d : Option Nat} (h : SRel W x0 N σ a w) (hd : ∀ t, d = some t → t < N) : SRel W x0 N (σ.put d (.tup [])) (a.put d undef) w := by
  obtain ⟨x, rfl, h1, h2, h3, h4, h5⟩ := h
  exact SRel.put h1 h2 h3 h4 h5 (undef_rel x) hd

/-- One operation, in the state at hand. -/
theorem op_sound {ops : Array Oper} {o : Oper} {m : MI} {σ : St} {a : Act} {w : World} {r : List MI} {K : St → Prop} {Q : Exit → Act → World → Prop} {next : Act → World → Prop} (hc : convI P N ops o = some m) (hs : SRel W x0 N σ a w) (h : aops P (m :: r) σ K)
    (hnext : ∀ σ' a' w', aops P r σ' K → SRel W x0 N σ' a' w' → next a' w') :
    if Region.wanted o (yielded ops a.tmps) then o.wp P a w next Q ∨ (o.asks P a w ∧ LetsOut Q) else next (a.put o.dst undef) w := by
  unfold convI at hc
  split at hc
  · rename_i g hd hg
    have hdst := dstOk_spec hd
    have hs' := hs
    obtain ⟨x, rfl, h1, h2, h3, h4, h5⟩ := hs
    cases hl : convL P o.op with
    | some mo =>
      simp only [hl, Option.some.injEq] at hc
      subst hc
      simp only [aops] at h
      rcases gd_sound hg h3 h with ⟨hw, h⟩ | ⟨hw, h⟩
      · rw [if_pos hw]
        left
        obtain ⟨v, t, hK, hy⟩ := lop_sound hl h
        obtain ⟨v', hK', hv'⟩ := spl_sound hK
        obtain ⟨u, hrun, hr⟩ := hy x a (h3.known _) (fun id _ blk b e1 e2 => by
          cases blk with
          | dead => trivial
          | _ => exact (h2.at_ e1 rfl e2).2.2.2)
        unfold Oper.wp
        rw [hrun]
        exact hnext _ _ _ hK' (SRel.put h1 h2 h3 h4 h5 (hv' _ _ hr) hdst)
      · rw [if_neg (by simp [hw])]
        exact hnext _ _ _ h (hs'.putU hdst)
    | none =>
      simp only [hl] at hc
      cases hh : convH P o.op with
      | none => simp [hh] at hc
      | some mo =>
        simp only [hh, Option.some.injEq] at hc
        subst hc
        simp only [aops] at h
        rcases gd_sound hg h3 h with ⟨hw, h⟩ | ⟨hw, h⟩
        · rw [if_pos hw]
          left
          have plain : mo.isCall = false → hop mo σ (fun v σ' => aops P r (σ'.put o.dst v) K) → o.wp P a x.w next Q := by
            intro hn h
            obtain ⟨v, σ', y, u, hK, henv, hrun, hst, hok, hr⟩ := hop_sound (W := W) hh hn h x a h2 (h3.op o)
            have hrel := SRel.put (σ := σ') (d := o.dst) (h1.trans hst) hok (by rw [henv]; exact h3.mono hst.ext) h4 h5 hr hdst
            unfold Oper.wp
            rcases hrun with hrun | ⟨hrun, rfl⟩
            · rw [hrun]
              exact hnext _ _ _ hK hrel
            · rw [hrun]
              exact hnext _ _ _ hK hrel
          cases mo with
          | call f xs =>
            simp only at h
            -- the call
            obtain ⟨of, oargs, ats, hop, hf, hxs⟩ := convH_call hh
            obtain ⟨fv, hfv, hrf⟩ := gx_sound hf h
            obtain ⟨as, has, hra⟩ := gxs_sound hxs hfv
            cases fv with
            | fn fn first caps =>
              cases fn with
              | func fid =>
                have hrf' := hrf x a (h3.known _)
                simp only [RelV] at hrf'
                obtain ⟨va, vc, ef, r1, r2⟩ := hrf'
                have hargs : RelVs x (first ++ (as ++ caps)) (va ++ (oargs.map a.eval ++ vc)).toList := by
                  simp only [Array.toList_append]
                  exact RelVs_append r1 (RelVs_append (by simpa using hra x a (h3.known _)) r2)
                have hexec : (execOp a.eval o).run P x.w = (callFunc fid (va ++ (oargs.map a.eval ++ vc))).run P x.w := by
                  simp only [execOp, hop, resolve, Deferred.ofValue, ef, invoke, pure_bind, Array.append_assoc]
                unfold Oper.wp
                rw [hexec]
                rcases has.go W x _ h2 hargs with ⟨e1, e2⟩ | ⟨v, y, r', H', n', e1, e2, e3, e4, e5⟩
                · rw [e1]
                  simp only [Oper.upon]
                  refine e2.mono fun e w' ⟨v, he, y, r', H', n', hw', hK, hst, hok, hr⟩ => ?_
                  subst he
                  subst hw'
                  exact hnext _ _ _ hK (SRel.put (σ := { env := σ.env, H := H', nxt := n' }) (h1.trans hst) hok (h3.mono hst.ext) h4 h5 hr hdst)
                · rw [e1]
                  exact hnext _ _ _ e2 (SRel.put (σ := { env := σ.env, H := H', nxt := n' }) (h1.trans e3) e4 (h3.mono e3.ext) h4 h5 e5 hdst)
              | _ => exact has.elim
            | _ => exact has.elim
          | _ => exact plain rfl h
        · rw [if_neg (by simp [hw])]
          exact hnext _ _ _ h (hs'.putU hdst)
  · cases hc

/-- The same, of which we may know nothing. -/
theorem op_sound2 {ops : Array Oper} {o : Oper} {m : MI} {σ : St} {a : Act} {w : World} {r : List MI} {K : St → Prop} {Q : Exit → Act → World → Prop} {next : Act → World → Prop} (hc : convI2 P N ops o = some m) (hs : SRel W x0 N σ a w) (h : aops P (m :: r) σ K)
    (hnext : ∀ σ' a' w', aops P r σ' K → SRel W x0 N σ' a' w' → next a' w') :
    if Region.wanted o (yielded ops a.tmps) then o.wp P a w next Q ∨ (o.asks P a w ∧ LetsOut Q) else next (a.put o.dst undef) w := by
  unfold convI2 at hc
  split at hc
  · rename_i m' h1
    cases hc
    exact op_sound h1 hs h hnext
  · unfold badI at hc
    split at hc
    · rename_i g hd hg
      simp only [Option.some.injEq] at hc
      subst hc
      have hs' := hs
      obtain ⟨x, rfl, h1, h2, h3, h4, h5⟩ := hs
      simp only [aops] at h
      rcases gd_sound hg h3 h with ⟨hw, h⟩ | ⟨hw, h⟩
      · exact h.elim
      · rw [if_neg (by simp [hw])]
        exact hnext _ _ _ h (hs'.putU (dstOk_spec hd))
    · cases hc

theorem aops_sound {ops : Array Oper} {Q : Exit → Act → World → Prop} {K : St → Prop} (hQ : ∀ σ a w, K σ → SRel W x0 N σ a w → Q .normal a w) :
    ∀ {l : List Oper} {ms : List MI} {σ : St} {a : Act} {w : World}, convIs P N ops l = some ms → aops P ms σ K → SRel W x0 N σ a w → wpList P ops Q l a w
  | [], ms, σ, a, w, hc, h, hs => by
    simp only [convIs, Option.some.injEq] at hc
    subst hc
    exact hQ σ a w h hs
  | o :: l, ms, σ, a, w, hc, h, hs => by
    simp only [convIs] at hc
    split at hc
    · rename_i m ms' h1 h2
      simp only [Option.some.injEq] at hc
      subst hc
      exact op_sound2 h1 hs h fun σ' a' w' h' hs' => aops_sound hQ h2 h' hs'
    · cases hc

end

end Go.Hb

namespace Go.Hb
open Go.RowKit
variable [Amb]

/-! ### A region that draws its order: what only computes is taken first -/

inductive DT where
  | fin
  | nil
  | light (i : Nat) (m : MI) (t : DT)
  | heavy (i : Nat) (pend : List Nat) (m : MI) (t rest : DT)

/-- What may still wait to be read, is as it was. -/
def same (pend : List Nat) (Tr : List (Nat × Option Nat)) (H H' : List (Nat × Blk)) (K : Prop) : Prop :=
  match pend with
  | [] => K
  | d :: r => match lk d Tr with
    | some (some id) => lk id H' = lk id H ∧ same r Tr H H' K
    | _ => same r Tr H H' K

/-- A heavy operation of either kind. -/
def hany (P : Program) (m : HO) (σ : St) (K : AV → St → Prop) : Prop := match m with
  | .call f xs => hcall P f xs σ K
  | m => hop m σ K

def adr (P : Program) : DT → St → List (Nat × Option Nat) → (St → Prop) → Prop
  | .fin, σ, _, K => K σ
  | .nil, _, _, _ => True
  | .light i m t, σ, Tr, K => match m with
    | .l d sp g o => gd σ.env g (lop σ.env σ.H o fun v tch => spl sp v fun v' => adr P t (σ.put d v') ((i, tch) :: Tr) K) (adr P t (σ.put d (.tup [])) ((i, none) :: Tr) K)
    | _ => False
  | .heavy _ pend m t rest, σ, Tr, K =>
    let A := match m with
      | .h d g o => gd σ.env g (hany P o σ fun v σ' => same pend Tr σ.H σ'.H (adr P t (σ'.put d v) Tr K)) (adr P t (σ.put d (.tup [])) Tr K)
      | _ => False
    match rest with
    | .nil => A
    | rest => A ∧ adr P rest σ Tr K

def readyB (ops : Array Oper) (done i : Nat) : Bool :=
  !done.testBit i && (match ops[i]? with
    | some o => o.after.all fun e => !Region.binds .any e || done.testBit e.on
    | none => false)
def readys (ops : Array Oper) (done : Nat) : List Nat := (List.range ops.size).filter (readyB ops done)

def isL (P : Program) (ops : Array Oper) (i : Nat) : Bool :=
  match ops[i]? with
  | some o => (convL P o.op).isSome
  | none => false

/-- The operations that only compute, done already, that the heavy one does not wait for. -/
def pends (P : Program) (ops : Array Oper) (before : Array Nat) (done h : Nat) : List Nat :=
  (List.range ops.size).filter fun d => done.testBit d && isL P ops d && !(before.getD h 0).testBit d

def mkH (P : Program) (N : Nat) (ops : Array Oper) (before : Array Nat) (next : Nat → Option DT) (done : Nat) : List Nat → Option DT
  | [] => some .nil
  | h :: r => match ops[h]? with
    | some o => (match convI P N ops o, next (done ||| 2 ^ h), mkH P N ops before next done r with
      | some m, some t, some rest => some (.heavy h (pends P ops before done h) m t rest)
      | _, _, _ => none)
    | none => none
def mkT (P : Program) (N : Nat) (ops : Array Oper) (before : Array Nat) : Nat → Nat → Option DT
  | 0, done => match readys ops done with
    | [] => some .fin
    | _ => none
  | fuel + 1, done => match readys ops done with
    | [] => some .fin
    | r => match r.find? (isL P ops) with
      | some i => (match ops[i]? with
        | some o => (match convI P N ops o, mkT P N ops before fuel (done ||| 2 ^ i) with
          | some m, some t => some (.light i m t)
          | _, _ => none)
        | none => none)
      | none => mkH P N ops before (mkT P N ops before fuel) done r

def looks (ops : Array Oper) (o : Oper) : List Tmp := o.looksAt ops
def dstIn (d : Option Tmp) (l : List Tmp) : Bool :=
  match d with
  | some t => l.contains t
  | none => false
/-- Two operations of which one must wait for the other. -/
def clash (ops : Array Oper) (x y : Oper) : Bool := dstIn x.dst (y.looksAt ops) || dstIn y.dst (x.looksAt ops)
def sameDst (x y : Oper) : Bool :=
  match x.dst, y.dst with
  | some a, some b => a == b
  | _, _ => false

def staticOk (ops : Array Oper) (before : Array Nat) : Bool :=
  (List.range ops.size).all fun i => match ops[i]? with
    | none => true
    | some x => (x.after.all fun e => !Region.binds .any e || decide (e.on < i)) && (List.range i).all fun j => match ops[j]? with
      | none => true
      | some y => !sameDst y x && (!clash ops y x || (before.getD i 0).testBit j)

def convD (P : Program) (N : Nat) (ops : Array Oper) : Option DT :=
  let before := Region.before ops
  match staticOk ops before with
  | true => mkT P N ops before ops.size 0
  | false => none

/-! #### What the checks say -/

theorem before_size (ops : Array Oper) : (Region.before ops).size = ops.size := by
  unfold Region.before
  rw [← Array.foldl_toList]
  have : ∀ (l : List Oper) (acc : Array Nat), (l.foldl (fun acc o => acc.push (o.after.foldl (fun s e => if Region.binds .any e then s ||| 2 ^ e.on ||| acc.getD e.on 0 else s) 0)) acc).size = acc.size + l.length := by
    intro l
    induction l with
    | nil => intro acc; simp
    | cons o l ih => intro acc; simp only [List.foldl_cons, ih, Array.size_push, List.length_cons]; omega
  rw [this]
  simp

theorem foldl_bits (acc : Array Nat) (i : Nat) : ∀ (l : List Edge) (s : Nat), (l.foldl (fun s e => if Region.binds .any e then s ||| 2 ^ e.on ||| acc.getD e.on 0 else s) s).testBit i = true →
    s.testBit i = true ∨ ∃ e ∈ l, Region.binds .any e = true ∧ (e.on = i ∨ (acc.getD e.on 0).testBit i = true)
  | [], s, h => .inl h
  | e :: l, s, h => by
    simp only [List.foldl_cons] at h
    rcases foldl_bits acc i l _ h with h1 | ⟨e', he', r⟩
    · split at h1
      · rename_i hb
        simp only [Nat.testBit_or, Bool.or_eq_true] at h1
        rcases h1 with (h1 | h1) | h1
        · exact .inl h1
        · exact .inr ⟨e, by simp, hb, .inl (by simpa [Nat.testBit_two_pow] using h1)⟩
        · exact .inr ⟨e, by simp, hb, .inr h1⟩
      · exact .inl h1
    · exact .inr ⟨e', by simp [he'], r⟩

/-- Who is ahead of an operation is one of those it waits for, or is ahead of one of these. -/
theorem before_spec (ops : Array Oper) : ∀ (j i : Nat) (o : Oper), ops[j]? = some o → ((Region.before ops).getD j 0).testBit i = true →
    ∃ e ∈ o.after, Region.binds .any e = true ∧ (e.on = i ∨ (e.on < j ∧ ((Region.before ops).getD e.on 0).testBit i = true)) := by
  have key : ∀ (l : List Oper) (acc : Array Nat), (∀ k, k < acc.size → ((l.foldl (fun acc o => acc.push (o.after.foldl (fun s e => if Region.binds .any e then s ||| 2 ^ e.on ||| acc.getD e.on 0 else s) 0)) acc).getD k 0) = acc.getD k 0) ∧
      ∀ (k : Nat) (o : Oper), l[k]? = some o → ∀ i, (((l.foldl (fun acc o => acc.push (o.after.foldl (fun s e => if Region.binds .any e then s ||| 2 ^ e.on ||| acc.getD e.on 0 else s) 0)) acc).getD (acc.size + k) 0).testBit i = true) →
        ∃ e ∈ o.after, Region.binds .any e = true ∧ (e.on = i ∨ (e.on < acc.size + k ∧ ((l.foldl (fun acc o => acc.push (o.after.foldl (fun s e => if Region.binds .any e then s ||| 2 ^ e.on ||| acc.getD e.on 0 else s) 0)) acc).getD e.on 0).testBit i = true)) := by
    intro l
    induction l with
    | nil => intro acc; exact ⟨fun _ _ => rfl, fun k o h => by simp at h⟩
    | cons o l ih =>
      intro acc
      simp only [List.foldl_cons]
      obtain ⟨h1, h2⟩ := ih (acc.push (o.after.foldl (fun s e => if Region.binds .any e then s ||| 2 ^ e.on ||| acc.getD e.on 0 else s) 0))
      refine ⟨fun k hk => ?_, fun k q hq i hi => ?_⟩
      · rw [h1 k (by simp; omega)]
        simp [Array.getElem?_push, Nat.ne_of_lt hk]
      · cases k with
        | zero =>
          simp at hq
          subst hq
          rw [Nat.add_zero, h1 acc.size (by simp)] at hi
          have e : (acc.push (o.after.foldl (fun s e => if Region.binds .any e then s ||| 2 ^ e.on ||| acc.getD e.on 0 else s) 0)).getD acc.size 0 = o.after.foldl (fun s e => if Region.binds .any e then s ||| 2 ^ e.on ||| acc.getD e.on 0 else s) 0 := by
            simp
          rw [e, ← Array.foldl_toList] at hi
          rcases foldl_bits acc i _ _ hi with h | ⟨e, he, hb, h⟩
          · simp at h
          · refine ⟨e, by simpa using he, hb, ?_⟩
            rcases h with h | h
            · exact .inl h
            · right
              have hlt : e.on < acc.size := by
                rcases Nat.lt_or_ge e.on acc.size with h' | h'
                · exact h'
                · simp [Array.getElem?_eq_none h'] at h
              refine ⟨by omega, ?_⟩
              rw [h1 _ (by simp; omega)]
              have : (acc.push (o.after.foldl (fun s e => if Region.binds .any e then s ||| 2 ^ e.on ||| acc.getD e.on 0 else s) 0)).getD e.on 0 = acc.getD e.on 0 := by
                simp [Array.getElem?_push, Nat.ne_of_lt hlt]
              rw [this]
              exact h
        | succ k =>
          simp at hq
          have := h2 k q hq i (by rw [Array.size_push, show acc.size + 1 + k = acc.size + (k + 1) by omega]; exact hi)
          obtain ⟨e, he, hb, h⟩ := this
          refine ⟨e, he, hb, h.imp id fun ⟨a, b⟩ => ⟨by rw [Array.size_push] at a; omega, b⟩⟩
  intro j i o ho hi
  have := (key ops.toList #[]).2 j o (by simpa using ho) i
  unfold Region.before at hi ⊢
  rw [← Array.foldl_toList] at hi ⊢
  simpa using this (by simpa using hi)


/-- What an operation that was taken first will leave. -/
structure Pen where
  v : AV
  tch : Option Nat
  env : List (Nat × AV)
  H : List (Nat × Blk)

def YldsG (P : Program) (ops : Array Oper) (o : Oper) (p : Pen) : Prop :=
  ∀ (x : Cx) (a : Act), Known x p.env a.tmps (o.looksAt ops) → (∀ id, p.tch = some id → ∀ blk b, lk id p.H = some blk → x.loc id = some b → BlkRel x blk b) →
    (Region.wanted o (yielded ops a.tmps) = true ∧ ∃ u, (execOp a.eval o).run P x.w = .ok (.value u) x.w ∧ RelV x p.v u) ∨ (Region.wanted o (yielded ops a.tmps) = false ∧ RelV x p.v undef)

theorem mem_looks {ops : Array Oper} {o : Oper} {t : Tmp} (h : Operand.tmp t ∈ o.op.operands.toList) : t ∈ o.looksAt ops := by
  unfold Oper.looksAt
  rw [List.mem_append]
  left
  rw [List.mem_filterMap]
  exact ⟨.tmp t, h, rfl⟩

theorem convL_tmps {P : Program} {o : Op} {m : MO} (hc : convL P o = some m) : ∀ t ∈ m.tmps, Operand.tmp t ∈ o.operands.toList := by
  intro t ht
  cases o with
  | move x =>
    simp only [convL, Option.map_eq_some_iff] at hc
    obtain ⟨x', hx, rfl⟩ := hc
    simp [Op.operands, convX_tmps hx t ht]
  | assign x =>
    simp only [convL, Option.map_eq_some_iff] at hc
    obtain ⟨x', hx, rfl⟩ := hc
    simp [Op.operands, convX_tmps hx t ht]
  | pick c a b =>
    simp only [convL] at hc
    split at hc
    · cases hc
      rename_i h1 h2 h3
      simp only [MO.tmps, List.mem_append] at ht
      rcases ht with ht | ht | ht
      · simp [Op.operands, convX_tmps h1 t ht]
      · simp [Op.operands, convX_tmps h2 t ht]
      · simp [Op.operands, convX_tmps h3 t ht]
    · cases hc
  | load t' x =>
    simp only [convL] at hc
    split at hc
    · cases hc
      rename_i h1 h2 h3
      simp [Op.operands, convX_tmps h1 t ht]
    · cases hc
  | binOp op t' x y t'' =>
    have fin : ∀ x' y', convX x = some x' → convX y = some y' → t ∈ x'.tmps ++ y'.tmps → Operand.tmp t ∈ (Op.binOp op t' x y t'').operands.toList := fun x' y' h1 h2 ht => by
      simp only [List.mem_append] at ht
      rcases ht with ht | ht
      · simp [Op.operands, convX_tmps h1 t ht]
      · simp [Op.operands, convX_tmps h2 t ht]
    simp only [convL] at hc
    split at hc
    · cases hc; exact fin _ _ ‹convX x = some _› ‹convX y = some _› ht
    · cases hc; exact fin _ _ ‹convX x = some _› ‹convX y = some _› ht
    · split at hc
      · cases hc; exact fin _ _ ‹convX x = some _› ‹convX y = some _› ht
      · cases hc; exact fin _ _ ‹convX x = some _› ‹convX y = some _› ht
      · cases hc
    · split at hc
      · split at hc
        · cases hc; exact fin _ _ ‹convX x = some _› ‹convX y = some _› ht
        · cases hc; exact fin _ _ ‹convX x = some _› ‹convX y = some _› ht
        · cases hc
      · cases hc
    · cases hc
  | unOp op t' x =>
    simp only [convL, Option.map_eq_some_iff] at hc
    obtain ⟨x', hx, rfl⟩ := hc
    simp [Op.operands, convX_tmps hx t ht]
  | fieldAddr t' x f =>
    simp only [convL] at hc
    split at hc
    · rename_i h1 h2
      split at hc
      · cases hc; simp [Op.operands, convX_tmps h1 t ht]
      · cases hc
    · cases hc
  | field t' x f =>
    simp only [convL] at hc
    split at hc
    · rename_i h1 h2
      split at hc
      · cases hc; simp [Op.operands, convX_tmps h1 t ht]
      · cases hc
    · cases hc
  | indexAddr t' x i =>
    simp only [convL] at hc
    split at hc
    · rename_i x' i' h1 h2
      have fin : t ∈ x'.tmps ++ i'.tmps → Operand.tmp t ∈ (Op.indexAddr t' x i).operands.toList := fun ht => by
        simp only [List.mem_append] at ht
        rcases ht with ht | ht
        · simp [Op.operands, convX_tmps h1 t ht]
        · simp [Op.operands, convX_tmps h2 t ht]
      split at hc
      · obtain ⟨s, hs, rfl⟩ := Option.map_eq_some_iff.1 hc
        exact fin ht
      · split at hc
        · obtain ⟨s, hs, rfl⟩ := Option.map_eq_some_iff.1 hc
          exact fin ht
        · cases hc
    · cases hc
  | index t' x i =>
    have fin : ∀ x' y', convX x = some x' → convX i = some y' → t ∈ x'.tmps ++ y'.tmps → Operand.tmp t ∈ (Op.index t' x i).operands.toList := fun x' y' h1 h2 ht => by
      simp only [List.mem_append] at ht
      rcases ht with ht | ht
      · simp [Op.operands, convX_tmps h1 t ht]
      · simp [Op.operands, convX_tmps h2 t ht]
    simp only [convL] at hc
    split at hc
    · cases hc; exact fin _ _ ‹convX x = some _› ‹convX i = some _› ht
    · split at hc
      · cases hc; exact fin _ _ ‹convX x = some _› ‹convX i = some _› ht
      · cases hc
    · cases hc
  | extract x i =>
    simp only [convL, Option.map_eq_some_iff] at hc
    obtain ⟨x', hx, rfl⟩ := hc
    simp [Op.operands, convX_tmps hx t ht]
  | call c =>
    obtain ⟨callee, args, argTypes⟩ := c
    cases callee with
    | builtin b =>
      have fin1 : ∀ (b : Builtin) (x : Operand) (x' : X), args.toList = [x] → convX x = some x' → t ∈ x'.tmps → Operand.tmp t ∈ (Op.call { callee := .builtin b, args := args, argTypes := argTypes }).operands.toList := fun b x x' ha h1 ht => by
        simp [Op.operands, Call.operands, ha, convX_tmps h1 t ht]
      have fin2 : ∀ (b : Builtin) (x y : Operand) (x' y' : X), args.toList = [x, y] → convX x = some x' → convX y = some y' → t ∈ x'.tmps ++ y'.tmps → Operand.tmp t ∈ (Op.call { callee := .builtin b, args := args, argTypes := argTypes }).operands.toList := fun b x y x' y' ha h1 h2 ht => by
        simp only [List.mem_append] at ht
        rcases ht with ht | ht
        · simp [Op.operands, Call.operands, ha, convX_tmps h1 t ht]
        · simp [Op.operands, Call.operands, ha, convX_tmps h2 t ht]
      cases b <;> simp only [convL] at hc <;> try cases hc
      · split at hc
        · split at hc
          · cases hc; exact fin1 _ _ _ ‹args.toList = _› ‹convX _ = some _› ht
          · cases hc
        · cases hc
      · split at hc
        · split at hc
          · cases hc; exact fin1 _ _ _ ‹args.toList = _› ‹convX _ = some _› ht
          · cases hc; exact fin1 _ _ _ ‹args.toList = _› ‹convX _ = some _› ht
          · cases hc
        · cases hc
      · split at hc
        · split at hc
          · rename_i h1 h2; cases hc; exact fin2 _ _ _ _ _ ‹args.toList = _› h1 h2 ht
          · cases hc
        · cases hc
      · split at hc
        · split at hc
          · rename_i h1 h2; cases hc; exact fin2 _ _ _ _ _ ‹args.toList = _› h1 h2 ht
          · cases hc
        · cases hc
    | _ => simp [convL] at hc
  | convert t' t'' x =>
    simp only [convL] at hc
    split at hc
    · rename_i h1 h2 h3; cases hc; simp [Op.operands, convX_tmps h1 t ht]
    · rename_i h1 h2 h3; cases hc
      simp [MO.tmps, tmpsO] at ht
      simp [Op.operands, convX_tmps h1 t ht]
    · rename_i h1 h2 h3
      split at hc
      · cases hc; simp [Op.operands, convX_tmps h1 t ht]
      · cases hc
    · cases hc
  | slice t' x lo hi mx =>
    cases mx with
    | some m =>
      cases hi with
      | none => simp [convL] at hc
      | some hi =>
        simp only [convL] at hc
        split at hc
        · rename_i x' lo' hi' m' h1 h2 h3 h4
          have fin : t ∈ x'.tmps ++ (m'.tmps ++ (tmpsO lo' ++ tmpsO (some hi'))) → Operand.tmp t ∈ (Op.slice t' x lo (some hi) (some m)).operands.toList := fun ht => by
            simp only [List.mem_append] at ht
            rcases ht with ht | ht | ht | ht
            · simp [Op.operands, convX_tmps h1 t ht]
            · simp [Op.operands, convX_tmps h4 t ht]
            · simp [Op.operands, convXo_tmps h2 t ht]
            · simp only [tmpsO] at ht
              simp [Op.operands, convX_tmps h3 t ht]
          split at hc
          · obtain ⟨s, hs, rfl⟩ := Option.map_eq_some_iff.1 hc; exact fin ht
          · cases hc
        · cases hc
    | none =>
      simp only [convL] at hc
      split at hc
      · rename_i x' lo' hi' h1 h2 h3
        have fin : t ∈ x'.tmps ++ (tmpsO lo' ++ tmpsO hi') → Operand.tmp t ∈ (Op.slice t' x lo hi none).operands.toList := fun ht => by
          simp only [List.mem_append] at ht
          rcases ht with ht | ht | ht
          · simp [Op.operands, convX_tmps h1 t ht]
          · simp [Op.operands, convXo_tmps h2 t ht]
          · simp [Op.operands, convXo_tmps h3 t ht]
        split at hc
        · cases hc; exact fin ht
        · obtain ⟨s, hs, rfl⟩ := Option.map_eq_some_iff.1 hc; exact fin ht
        · obtain ⟨s, hs, rfl⟩ := Option.map_eq_some_iff.1 hc; exact fin ht
        · cases hc
      · cases hc
  | makeFunc f first caps =>
    simp only [convL, convArr] at hc
    split at hc
    · cases hc
      rename_i h1 h2
      simp only [MO.tmps, List.mem_append] at ht
      rcases ht with ht | ht
      · have := convXs_tmps h1 t ht
        simp only [Op.operands, Array.toList_append, List.mem_append]
        exact .inl this
      · have := convXs_tmps h2 t ht
        simp only [Op.operands, Array.toList_append, List.mem_append]
        exact .inr this
    · cases hc
  | nilCheck x =>
    simp only [convL, Option.map_eq_some_iff] at hc
    obtain ⟨x', hx, rfl⟩ := hc
    simp [Op.operands, convX_tmps hx t ht]
  | build t' parts =>
    simp only [convL] at hc
    have fin : ∀ pl ps, convParts pl parts.toList = some ps → t ∈ tmpsParts ps → Operand.tmp t ∈ (Op.build t' parts).operands.toList := fun pl ps h1 ht => by
      have := convParts_tmps h1 t ht
      simpa [Op.operands] using this
    split at hc
    · split at hc
      · obtain ⟨ps, hp, rfl⟩ := Option.map_eq_some_iff.1 hc
        exact fin _ _ hp ht
      · cases hc
    · split at hc
      · obtain ⟨ps, hp, rfl⟩ := Option.map_eq_some_iff.1 hc
        exact fin _ _ hp ht
      · cases hc
    · cases hc
  | _ => simp [convL] at hc

theorem guard_looks {ops : Array Oper} {o : Oper} {t : Tmp} {want : Bool} (h : convGuard ops o.guard = some (some (t, want))) : t ∈ o.looksAt ops := by
  cases hg : o.guard with
  | none => simp [hg, convGuard] at h
  | some q =>
    obtain ⟨j, w⟩ := q
    simp only [hg, convGuard] at h
    split at h
    · rename_i t' ht
      simp only [Option.some.injEq, Prod.mk.injEq] at h
      obtain ⟨rfl, _⟩ := h
      unfold Oper.looksAt
      rw [List.mem_append]
      right
      simp [hg, ht]
    · cases h

/-- A guard says the same wherever its slot is known. -/
theorem gd_dec {ops : Array Oper} {o : Oper} {g : Option (Nat × Bool)} {env : List (Nat × AV)} {run skip : Prop} (hg : convGuard ops o.guard = some g) (h : gd env g run skip) :
    (run ∧ ∀ (x : Cx) (tmps : Array Value), Known x env tmps (o.looksAt ops) → Region.wanted o (yielded ops tmps) = true) ∨ (skip ∧ ∀ (x : Cx) (tmps : Array Value), Known x env tmps (o.looksAt ops) → Region.wanted o (yielded ops tmps) = false) := by
  cases g with
  | none =>
    left
    refine ⟨h, fun x tmps _ => ?_⟩
    cases hog : o.guard with
    | none => simp [Region.wanted, hog]
    | some q =>
      obtain ⟨j, w⟩ := q
      simp only [hog, convGuard] at hg
      split at hg <;> cases hg
  | some q =>
    obtain ⟨t, want⟩ := q
    have hlk := guard_looks hg
    cases hog : o.guard with
    | none => simp [hog, convGuard] at hg
    | some q =>
      obtain ⟨j, want'⟩ := q
      simp only [hog, convGuard] at hg
      split at hg
      · rename_i t' ht
        simp only [Option.some.injEq, Prod.mk.injEq] at hg
        obtain ⟨rfl, rfl⟩ := hg
        simp only [gd] at h
        cases hl : lk t' env with
        | none => simp [hl] at h
        | some v =>
          simp only [hl] at h
          have bool : ∀ b : Bool, (∀ (x : Cx) u, RelV x v u → u = .bool b) → ∀ (x : Cx) (tmps : Array Value), Known x env tmps (o.looksAt ops) → Region.wanted o (yielded ops tmps) = (b == want') := by
            intro b hb x tmps hk
            obtain ⟨u, hu, hr⟩ := hk t' hlk v hl
            have e := hb x u hr
            subst e
            have hy : yielded ops tmps j = some b := by
              unfold yielded
              rw [ht]
              simp [hu]
            simp only [Region.wanted, hog, hy]
            cases b <;> cases want' <;> rfl
          cases v with
          | tt =>
            have hb := bool true fun x u hr => by simpa [RelV] using hr
            cases want' with
            | true => exact .inl ⟨h, hb⟩
            | false => exact .inr ⟨h, hb⟩
          | ff =>
            have hb := bool false fun x u hr => by simpa [RelV] using hr
            cases want' with
            | true => exact .inr ⟨h, hb⟩
            | false => exact .inl ⟨h, hb⟩
          | b y =>
            have hb := bool y fun x u hr => by simpa [RelV] using hr
            cases y <;> cases want'
            · exact .inl ⟨h.2 rfl, hb⟩
            · exact .inr ⟨h.2 rfl, hb⟩
            · exact .inr ⟨h.1 rfl, hb⟩
            · exact .inl ⟨h.1 rfl, hb⟩
          | tup l =>
            cases l with
            | nil =>
              right
              refine ⟨h, fun x tmps hk => ?_⟩
              obtain ⟨u, hu, hr⟩ := hk t' hlk _ hl
              simp only [RelV] at hr
              obtain ⟨vs, e, _⟩ := hr
              subst e
              have hy : yielded ops tmps j = none := by
                unfold yielded
                rw [ht]
                simp [hu]
              simp [Region.wanted, hog, hy]
            | cons _ _ => exact h.elim
          | _ => exact h.elim
      · cases hg


theorem same_spec {Tr : List (Nat × Option Nat)} {H H' : List (Nat × Blk)} {K : Prop} : ∀ {pend : List Nat}, same pend Tr H H' K → K ∧ ∀ d ∈ pend, ∀ id, lk d Tr = some (some id) → lk id H' = lk id H
  | [], h => ⟨h, fun d hd => by cases hd⟩
  | d :: r, h => by
    simp only [same] at h
    split at h
    · rename_i id hl
      obtain ⟨h1, h2⟩ := h
      obtain ⟨k1, k2⟩ := same_spec h2
      refine ⟨k1, fun d' hd id' hid => ?_⟩
      rcases List.mem_cons.1 hd with rfl | hd
      · rw [hl] at hid; cases hid; exact h1
      · exact k2 d' hd id' hid
    · rename_i hne
      obtain ⟨k1, k2⟩ := same_spec h
      refine ⟨k1, fun d' hd id' hid => ?_⟩
      rcases List.mem_cons.1 hd with rfl | hd
      · exact absurd hid (hne id')
      · exact k2 d' hd id' hid

section
variable {P : Program} {W : Nat → Prop} {x0 : Cx} {N : Nat} {ops : Array Oper}

/-- Where the walk stands in a region: `done` has come up for us, `listed` for the machine; D is what the machine still owes. -/
structure DInv (P : Program) (W : Nat → Prop) (x0 : Cx) (N : Nat) (ops : Array Oper) (done : Nat) (listed : Array Bool) (σ : St) (Tr : List (Nat × Option Nat)) (D : Nat → Option Pen) (x : Cx) (a : Act) : Prop where
  size : listed.size = ops.size
  d1 : ∀ i p, D i = some p → done.testBit i = true ∧ listed.getD i true = false ∧ isL P ops i = true
  d2 : ∀ i, done.testBit i = true → i < ops.size ∧ (listed.getD i false = true ∨ ∃ p, D i = some p)
  l1 : ∀ i, listed.getD i false = true → done.testBit i = true
  ld : ∀ i o, ops[i]? = some o → listed.getD i false = true → ∀ e ∈ o.after, Region.binds .any e = true → listed.getD e.on false = true
  dd : ∀ i o, ops[i]? = some o → done.testBit i = true → ∀ e ∈ o.after, Region.binds .any e = true → done.testBit e.on = true
  step : Step W x0 x
  ok : HOk W x σ.H σ.nxt
  env : ∀ t v, lk t σ.env = some v → (∃ j p o, D j = some p ∧ ops[j]? = some o ∧ o.dst = some t) ∨ ∃ u, a.tmps[t]? = some u ∧ RelV x v u
  pen : ∀ d p o, D d = some p → ops[d]? = some o → YldsG P ops o p ∧ (∀ t, o.dst = some t → t < N) ∧ ∀ t ∈ o.looksAt ops, ∀ u, lk t p.env = some u →
    (∃ j q o', D j = some q ∧ ops[j]? = some o' ∧ o'.dst = some t ∧ ((Region.before ops).getD d 0).testBit j = true) ∨ ∃ w, a.tmps[t]? = some w ∧ RelV x u w
  got : ∀ d p o t, D d = some p → ops[d]? = some o → o.dst = some t → lk t σ.env = some p.v
  two : ∀ d p e q o t, D d = some p → D e = some q → ops[e]? = some o → ((Region.before ops).getD d 0).testBit e = true → o.dst = some t → lk t p.env = some q.v
  tch : ∀ d p id, D d = some p → p.tch = some id → lk id p.H = lk id σ.H
  tr : ∀ d p, D d = some p → lk d Tr = some p.tch
  n : a.tmps.size = N
  defers : a.defers = []

/-- Whoever is ahead of one that has come up has come up. -/
theorem ahead_of (S : Nat → Prop) (hS : ∀ i o, ops[i]? = some o → S i → ∀ e ∈ o.after, Region.binds .any e = true → S e.on) :
    ∀ (j i : Nat) (o : Oper), ops[j]? = some o → (∀ e ∈ o.after, Region.binds .any e = true → S e.on) → ((Region.before ops).getD j 0).testBit i = true → S i := by
  intro j
  induction j using Nat.strongRecOn with
  | _ j ih =>
    intro i o ho hall hb
    obtain ⟨e, he, hbe, h⟩ := before_spec ops j i o ho hb
    rcases h with rfl | ⟨hlt, hb'⟩
    · exact hall e he hbe
    · have hse := hall e he hbe
      have hlt' : e.on < ops.size := by
        rcases Nat.lt_or_ge e.on ops.size with h' | h'
        · exact h'
        · have : (Region.before ops).getD e.on 0 = 0 := by
            simp [Array.getElem?_eq_none (show (Region.before ops).size ≤ e.on by rw [before_size]; exact h')]
          rw [this] at hb'
          simp at hb'
      exact ih e.on hlt i (ops[e.on]'hlt') (Array.getElem?_eq_getElem hlt') (hS _ _ (Array.getElem?_eq_getElem hlt') hse) hb'

theorem readys_mem {done i : Nat} : i ∈ readys ops done ↔ done.testBit i = false ∧ ∃ o, ops[i]? = some o ∧ ∀ e ∈ o.after, Region.binds .any e = true → done.testBit e.on = true := by
  unfold readys readyB
  rw [List.mem_filter, List.mem_range]
  cases ho : ops[i]? with
  | none => simp
  | some o =>
    have hlt : i < ops.size := (Array.getElem?_eq_some_iff.1 ho).1
    simp only [hlt, true_and, Bool.and_eq_true, Bool.not_eq_true', Array.all_eq_true_iff_forall_mem, Bool.or_eq_true, Option.some.injEq, exists_eq_left']
    constructor
    · rintro ⟨h0, h⟩
      exact ⟨h0, fun e he hb => (h e he).resolve_left (by simp [hb])⟩
    · rintro ⟨h0, h⟩
      refine ⟨h0, fun e he => ?_⟩
      cases hb : Region.binds .any e
      · exact .inl rfl
      · exact .inr (h e he hb)

theorem static_spec (h : staticOk ops (Region.before ops) = true) :
    (∀ i o, ops[i]? = some o → ∀ e ∈ o.after, Region.binds .any e = true → e.on < i) ∧
    ∀ i j x y, i ≠ j → ops[i]? = some x → ops[j]? = some y → sameDst x y = false ∧ (clash ops x y = true → ((Region.before ops).getD j 0).testBit i = true ∨ ((Region.before ops).getD i 0).testBit j = true) := by
  unfold staticOk at h
  simp only [List.all_eq_true, List.mem_range] at h
  have one : ∀ i x, ops[i]? = some x → (∀ e ∈ x.after, Region.binds .any e = true → e.on < i) ∧ ∀ j, j < i → ∀ y, ops[j]? = some y → sameDst y x = false ∧ (clash ops y x = true → ((Region.before ops).getD i 0).testBit j = true) := by
    intro i x hx
    have hi := (Array.getElem?_eq_some_iff.1 hx).1
    have := h i hi
    simp only [hx, Bool.and_eq_true, Array.all_eq_true_iff_forall_mem, Bool.or_eq_true, Bool.not_eq_true', decide_eq_true_eq, List.all_eq_true, List.mem_range] at this
    obtain ⟨h1, h2⟩ := this
    refine ⟨fun e he hb => (h1 e he).resolve_left (by simp [hb]), fun j hj y hy => ?_⟩
    have := h2 j hj
    simp only [hy, Bool.and_eq_true, Bool.not_eq_true', Bool.or_eq_true] at this
    exact ⟨this.1, fun hc => this.2.resolve_left (by simp [hc])⟩
  have symD : ∀ x y : Oper, sameDst x y = sameDst y x := by
    intro x y
    unfold sameDst
    cases x.dst <;> cases y.dst <;> first | rfl | (simp only; rw [Bool.eq_iff_iff]; simp only [beq_iff_eq]; exact eq_comm)
  have symC : ∀ x y : Oper, clash ops x y = clash ops y x := by
    intro x y
    unfold clash
    exact Bool.or_comm _ _
  refine ⟨fun i o ho => (one i o ho).1, fun i j x y hij hx hy => ?_⟩
  rcases Nat.lt_or_gt_of_ne hij with hlt | hgt
  · obtain ⟨h1, h2⟩ := (one j y hy).2 i hlt x hx
    exact ⟨h1, fun hc => .inl (h2 hc)⟩
  · obtain ⟨h1, h2⟩ := (one i x hx).2 j hgt y hy
    exact ⟨by rw [symD]; exact h1, fun hc => .inr (h2 (by rw [symC]; exact hc))⟩

theorem clash_of_looks {x y : Oper} {t : Tmp} (hd : x.dst = some t) (hl : t ∈ y.looksAt ops) : clash ops x y = true := by
  unfold clash dstIn
  simp [hd, hl]
theorem clash_of_looks' {x y : Oper} {t : Tmp} (hd : y.dst = some t) (hl : t ∈ x.looksAt ops) : clash ops x y = true := by
  unfold clash dstIn
  simp [hd, hl]

theorem getD_false_of_true {l : Array Bool} {i : Nat} (h : l.getD i false = true) : l.getD i true = true := by
  rcases Nat.lt_or_ge i l.size with h' | h'
  · simp [h'] at h ⊢; exact h
  · simp [Array.getElem?_eq_none h'] at h
theorem getD_lt {l : Array Bool} {i : Nat} (h : l.getD i true = false) : i < l.size ∧ l.getD i false = false := by
  rcases Nat.lt_or_ge i l.size with h' | h'
  · simp [h'] at h ⊢; exact h
  · simp [Array.getElem?_eq_none h'] at h
theorem getD_set {l : Array Bool} {i j : Nat} (hi : i < l.size) : (l.setIfInBounds i true).getD j false = true ↔ j = i ∨ l.getD j false = true := by
  by_cases h : j = i
  · subst h
    simp [hi]
  · constructor
    · intro hh
      right
      simpa [Array.getElem?_setIfInBounds_ne (Ne.symm h)] using hh
    · rintro (hh | hh)
      · exact absurd hh h
      · simpa [Array.getElem?_setIfInBounds_ne (Ne.symm h)] using hh
theorem getD_set' {l : Array Bool} {i j : Nat} (h : j ≠ i) : (l.setIfInBounds i true).getD j true = l.getD j true := by
  simp [Array.getElem?_setIfInBounds_ne (Ne.symm h)]

/-- An operation that only computes is taken by us, ahead of the machine. -/
theorem DInv.take {done : Nat} {listed : Array Bool} {σ : St} {Tr : List (Nat × Option Nat)} {D : Nat → Option Pen} {x : Cx} {a : Act} {i : Nat} {o : Oper} {v : AV} {tch : Option Nat}
    (hst : staticOk ops (Region.before ops) = true) (h : DInv P W x0 N ops done listed σ Tr D x a) (hi : i ∈ readys ops done) (ho : ops[i]? = some o) (hL : isL P ops i = true) (hN : ∀ t, o.dst = some t → t < N)
    (hy : YldsG P ops o ⟨v, tch, σ.env, σ.H⟩) : DInv P W x0 N ops (done ||| 2 ^ i) listed (σ.put o.dst v) ((i, tch) :: Tr) (fun j => if j = i then some ⟨v, tch, σ.env, σ.H⟩ else D j) x a := by
  obtain ⟨hnd, o', ho', hall⟩ := readys_mem.1 hi
  rw [ho] at ho'
  cases ho'
  obtain ⟨s1, s2⟩ := static_spec hst
  have hilt : i < ops.size := (Array.getElem?_eq_some_iff.1 ho).1
  have bit : ∀ k, (done ||| 2 ^ i).testBit k = true ↔ done.testBit k = true ∨ k = i := by
    intro k
    rw [Nat.testBit_or, Bool.or_eq_true, Nat.testBit_two_pow, decide_eq_true_eq]
    exact or_congr Iff.rfl eq_comm
  have hul : listed.getD i true = false := by
    cases hl : listed.getD i true with
    | false => rfl
    | true =>
      have : listed.getD i false = true := by
        have hs := h.size
        simp [show i < listed.size by omega] at hl ⊢
        exact hl
      rw [h.l1 i this] at hnd
      cases hnd
  have hDi : D i = none := by
    cases hd : D i with
    | none => rfl
    | some p => rw [(h.d1 i p hd).1] at hnd; cases hnd
  have Dne : ∀ {j p}, D j = some p → j ≠ i := fun {j p} hj e => by subst e; rw [hDi] at hj; cases hj
  have putH : (σ.put o.dst v).H = σ.H := by cases o.dst <;> rfl
  have putN : (σ.put o.dst v).nxt = σ.nxt := by cases o.dst <;> rfl
  have lkput : ∀ t u, lk t (σ.put o.dst v).env = some u → (o.dst = some t ∧ u = v) ∨ (o.dst ≠ some t ∧ lk t σ.env = some u) := by
    intro t u hu
    cases hd : o.dst with
    | none => rw [hd] at hu; exact .inr ⟨by simp, hu⟩
    | some d =>
      rw [hd] at hu
      simp only [St.put, lk_cons] at hu
      by_cases hc : t = d
      · rw [if_pos hc] at hu; cases hu; exact .inl ⟨by rw [hc], rfl⟩
      · rw [if_neg hc] at hu; exact .inr ⟨by simp; exact fun e => hc e.symm, hu⟩
  -- nobody that has come up for us is behind i
  have notBehind : ∀ j, done.testBit j = true → ((Region.before ops).getD j 0).testBit i = false := by
    intro j hj
    cases hb : ((Region.before ops).getD j 0).testBit i with
    | false => rfl
    | true =>
      have hjl := (h.d2 j hj).1
      have := ahead_of (ops := ops) (fun k => done.testBit k = true) (fun k q hq hk => h.dd k q hq hk) j i (ops[j]'hjl) (Array.getElem?_eq_getElem hjl) (h.dd j _ (Array.getElem?_eq_getElem hjl) hj) hb
      rw [this] at hnd
      cases hnd
  refine ⟨h.size, fun j p hj => ?_, fun j hj => ?_, fun j hj => (bit j).2 (.inl (h.l1 j hj)), h.ld, fun j q hq hj e he hb => ?_, h.step, by rw [putH, putN]; exact h.ok, fun t u hu => ?_, fun d p q hd hq => ?_, fun d p q t hd hq ht => ?_, fun d p e q oe t hd he hoe hb ht => ?_, fun d p id hd hp => ?_, fun d p hd => ?_, h.n, h.defers⟩
  · by_cases hc : j = i
    · subst hc
      exact ⟨(bit j).2 (.inr rfl), hul, hL⟩
    · simp only [if_neg hc] at hj
      obtain ⟨h1, h2, h3⟩ := h.d1 j p hj
      exact ⟨(bit j).2 (.inl h1), h2, h3⟩
  · rcases (bit j).1 hj with h1 | rfl
    · obtain ⟨h2, h3⟩ := h.d2 j h1
      refine ⟨h2, h3.imp id fun ⟨p, hp⟩ => ⟨p, ?_⟩⟩
      simp only [if_neg (Dne hp)]
      exact hp
    · exact ⟨hilt, .inr ⟨⟨v, tch, σ.env, σ.H⟩, by simp⟩⟩
  · rcases (bit j).1 hj with h1 | rfl
    · exact (bit _).2 (.inl (h.dd j q hq h1 e he hb))
    · rw [ho] at hq
      cases hq
      exact (bit _).2 (.inl (hall e he hb))
  · rcases lkput t u hu with ⟨h1, h2⟩ | ⟨h1, h2⟩
    · exact .inl ⟨i, ⟨v, tch, σ.env, σ.H⟩, o, by simp, ho, h1⟩
    · rcases h.env t u h2 with ⟨j, p, q, g1, g2, g3⟩ | h3
      · exact .inl ⟨j, p, q, by simp only [if_neg (Dne g1)]; exact g1, g2, g3⟩
      · exact .inr h3
  · by_cases hc : d = i
    · subst hc
      simp only [if_true] at hd
      cases hd
      rw [ho] at hq
      cases hq
      refine ⟨hy, hN, fun t ht u hu => ?_⟩
      rcases h.env t u hu with ⟨j, p, q, g1, g2, g3⟩ | h3
      · have hne := Dne g1
        have hcl := (s2 j d q o hne g2 ho).2 (clash_of_looks g3 ht)
        have hjd := (h.d1 j p g1).1
        rcases hcl with hcl | hcl
        · exact .inl ⟨j, p, q, by simp only [if_neg hne]; exact g1, g2, g3, hcl⟩
        · rw [notBehind j hjd] at hcl
          cases hcl
      · exact .inr h3
    · simp only [if_neg hc] at hd
      obtain ⟨h1, h2, h3⟩ := h.pen d p q hd hq
      refine ⟨h1, h2, fun t ht u hu => ?_⟩
      rcases h3 t ht u hu with ⟨j, r, o', g1, g2, g3, g4⟩ | h4
      · exact .inl ⟨j, r, o', by simp only [if_neg (Dne g1)]; exact g1, g2, g3, g4⟩
      · exact .inr h4
  · by_cases hc : d = i
    · subst hc
      simp only [if_true] at hd
      cases hd
      rw [ho] at hq
      cases hq
      simp [St.put, ht, lk_cons]
    · simp only [if_neg hc] at hd
      have hsd := (s2 d i q o hc hq ho).1
      have hg := h.got d p q t hd hq ht
      cases hdo : o.dst with
      | none => exact hg
      | some d' =>
        simp only [St.put, lk_cons]
        rw [if_neg]
        · exact hg
        · intro e
          subst e
          simp [sameDst, ht, hdo] at hsd
  · by_cases hc : d = i
    · subst hc
      simp only [if_true] at hd
      cases hd
      by_cases he' : e = d
      · subst he'
        -- nobody is ahead of itself
        have := ahead_of (ops := ops) (fun k => done.testBit k = true) (fun k q hq hk => h.dd k q hq hk) e e o ho hall hb
        rw [this] at hnd
        cases hnd
      · simp only [if_neg he'] at he
        exact h.got e q oe t he hoe ht
    · simp only [if_neg hc] at hd
      by_cases he' : e = i
      · subst he'
        have := notBehind d (h.d1 d p hd).1
        rw [this] at hb
        cases hb
      · simp only [if_neg he'] at he
        exact h.two d p e q oe t hd he hoe hb ht
  · rw [putH]
    by_cases hc : d = i
    · subst hc
      simp only [if_true] at hd
      cases hd
      rfl
    · simp only [if_neg hc] at hd
      exact h.tch d p id hd hp
  · rw [lk_cons]
    by_cases hc : d = i
    · subst hc
      simp only [if_true] at hd
      cases hd
      simp
    · simp only [if_neg hc] at hd
      rw [if_neg hc]
      exact h.tr d p hd

/-- What the machine owes comes up. -/
theorem DInv.pay {done : Nat} {listed : Array Bool} {σ : St} {Tr : List (Nat × Option Nat)} {D : Nat → Option Pen} {x : Cx} {a : Act} {i : Nat} {o : Oper} {p : Pen} {Q : Exit → Act → World → Prop} {K : Act → World → Prop}
    (hst : staticOk ops (Region.before ops) = true) (h : DInv P W x0 N ops done listed σ Tr D x a) (hi : D i = some p) (ho : ops[i]? = some o) (hr : ∀ e ∈ o.after, Region.binds .any e = true → listed.getD e.on false = true)
    (hK : ∀ a', DInv P W x0 N ops done (listed.setIfInBounds i true) σ Tr (fun j => if j = i then none else D j) x a' → K a' x.w) : wpOp P ops Q i K a x.w := by
  obtain ⟨s1, s2⟩ := static_spec hst
  obtain ⟨hdi, hul, hL⟩ := h.d1 i p hi
  obtain ⟨hlt, hul'⟩ := getD_lt hul
  obtain ⟨hy, hN, hpen⟩ := h.pen i p o hi ho
  have aheadL : ∀ j, ((Region.before ops).getD i 0).testBit j = true → listed.getD j false = true := fun j hb =>
    ahead_of (ops := ops) (fun k => listed.getD k false = true) (fun k q hq hk => h.ld k q hq hk) i j o ho hr hb
  have hunl : ∀ {j q}, D j = some q → listed.getD j false = false := fun {j q} hj => (getD_lt (h.d1 j q hj).2.1).2
  have hknown : Known x p.env a.tmps (o.looksAt ops) := by
    intro t ht u hu
    rcases hpen t ht u hu with ⟨j, q, o', g1, g2, g3, g4⟩ | h1
    · have := aheadL j g4
      rw [hunl g1] at this
      cases this
    · exact h1
  have htch : ∀ id, p.tch = some id → ∀ blk b, lk id p.H = some blk → x.loc id = some b → BlkRel x blk b := by
    intro id hid blk b h1 h2
    rw [h.tch i p id hi hid] at h1
    cases blk with
    | dead => trivial
    | _ => exact (h.ok.at_ h1 rfl h2).2.2.2
  have next : ∀ u, RelV x p.v u → DInv P W x0 N ops done (listed.setIfInBounds i true) σ Tr (fun j => if j = i then none else D j) x (a.put o.dst u) := by
    intro u hru
    have hsz : (a.put o.dst u).tmps.size = N := by
      cases hd : o.dst <;> simp [Act.put, h.n]
    have old : ∀ t w, o.dst ≠ some t → a.tmps[t]? = some w → (a.put o.dst u).tmps[t]? = some w := by
      intro t w hne hw
      cases hd : o.dst with
      | none => exact hw
      | some d =>
        simp only [Act.put]
        rw [Array.getElem?_setIfInBounds_ne (fun e => hne (by rw [hd, e]))]
        exact hw
    have new : ∀ t, o.dst = some t → (a.put o.dst u).tmps[t]? = some u := by
      intro t ht
      have := hN t ht
      simp [Act.put, ht, h.n, this]
    have Dn : ∀ {j q}, (if j = i then none else D j) = some q → j ≠ i ∧ D j = some q := fun {j q} hj => by
      by_cases hc : j = i
      · simp [hc] at hj
      · rw [if_neg hc] at hj
        exact ⟨hc, hj⟩
    refine ⟨by simp [h.size], fun j q hj => ?_, fun j hj => ?_, fun j hj => ?_, fun j q hq hj e he hb => ?_, h.dd, h.step, h.ok, fun t v hv => ?_, fun d q oq hd hq => ?_, fun d q oq t hd hq ht => h.got d q oq t (Dn hd).2 hq ht,
      fun d q e r oe t hd he hoe hb ht => h.two d q e r oe t (Dn hd).2 (Dn he).2 hoe hb ht, fun d q id hd hq => h.tch d q id (Dn hd).2 hq, fun d q hd => h.tr d q (Dn hd).2, hsz, by cases hd : o.dst <;> simp [Act.put, h.defers]⟩
    · obtain ⟨hne, hj⟩ := Dn hj
      obtain ⟨h1, h2, h3⟩ := h.d1 j q hj
      exact ⟨h1, by rw [getD_set' hne]; exact h2, h3⟩
    · obtain ⟨h1, h2⟩ := h.d2 j hj
      refine ⟨h1, ?_⟩
      rcases h2 with h2 | ⟨q, hq⟩
      · exact .inl ((getD_set hlt).2 (.inr h2))
      · by_cases hc : j = i
        · exact .inl ((getD_set hlt).2 (.inl hc))
        · exact .inr ⟨q, by rw [if_neg hc]; exact hq⟩
    · rcases (getD_set hlt).1 hj with rfl | hj
      · exact hdi
      · exact h.l1 j hj
    · rcases (getD_set hlt).1 hj with rfl | hj
      · rw [ho] at hq
        cases hq
        exact (getD_set hlt).2 (.inr (hr e he hb))
      · exact (getD_set hlt).2 (.inr (h.ld j q hq hj e he hb))
    · by_cases hd : o.dst = some t
      · right
        have := h.got i p o t hi ho hd
        rw [this] at hv
        cases hv
        exact ⟨u, new t hd, hru⟩
      · rcases h.env t v hv with ⟨j, q, oq, g1, g2, g3⟩ | ⟨w, hw, hrw⟩
        · have hne : j ≠ i := fun e => by subst e; rw [ho] at g2; cases g2; exact hd g3
          exact .inl ⟨j, q, oq, by rw [if_neg hne]; exact g1, g2, g3⟩
        · exact .inr ⟨w, old t w hd hw, hrw⟩
    · obtain ⟨hne, hd⟩ := Dn hd
      obtain ⟨h1, h2, h3⟩ := h.pen d q oq hd hq
      refine ⟨h1, h2, fun t ht v hv => ?_⟩
      by_cases hdt : o.dst = some t
      · -- i wrote what d looks at: it is ahead of d
        have hcl := (s2 i d o oq (Ne.symm hne) ho hq).2 (clash_of_looks hdt ht)
        rcases hcl with hcl | hcl
        · have := h.two d q i p o t hd hi ho hcl hdt
          rw [this] at hv
          cases hv
          exact .inr ⟨u, new t hdt, hru⟩
        · have := aheadL d hcl
          rw [hunl hd] at this
          cases this
      · rcases h3 t ht v hv with ⟨j, r, o', g1, g2, g3, g4⟩ | ⟨w, hw, hrw⟩
        · have hji : j ≠ i := fun e => by subst e; rw [ho] at g2; cases g2; exact hdt g3
          exact .inl ⟨j, r, o', by rw [if_neg hji]; exact g1, g2, g3, g4⟩
        · exact .inr ⟨w, old t w hdt hw, hrw⟩
  unfold wpOp
  simp only [ho]
  rcases hy x a hknown htch with ⟨hw, u, hrun, hru⟩ | ⟨hw, hru⟩
  · rw [if_pos hw]
    left
    unfold Oper.wp
    rw [hrun]
    exact hK _ (next u hru)
  · rw [if_neg (by simp [hw])]
    exact hK _ (next _ hru)


/-- An operation that does something comes up, for us and for the machine. -/
theorem DInv.heavy {done : Nat} {listed : Array Bool} {σ : St} {Tr : List (Nat × Option Nat)} {D : Nat → Option Pen} {x : Cx} {a : Act} {i : Nat} {o : Oper} {m : HO} {g : Option (Nat × Bool)} {Q : Exit → Act → World → Prop} {K : Act → World → Prop} {cont : St → Prop}
    (hst : staticOk ops (Region.before ops) = true) (h : DInv P W x0 N ops done listed σ Tr D x a) (hi : i ∈ readys ops done) (ho : ops[i]? = some o) (hL : convL P o.op = none) (hH : convH P o.op = some m) (hg : convGuard ops o.guard = some g) (hN : ∀ t, o.dst = some t → t < N)
    (hr : ∀ e ∈ o.after, Region.binds .any e = true → listed.getD e.on false = true)
    (hA : gd σ.env g (hany P m σ fun v σ' => same (pends P ops (Region.before ops) done i) Tr σ.H σ'.H (cont (σ'.put o.dst v))) (cont (σ.put o.dst (.tup []))))
    (hK : ∀ σ' x' a', DInv P W x0 N ops (done ||| 2 ^ i) (listed.setIfInBounds i true) σ' Tr D x' a' → cont σ' → K a' x'.w) : wpOp P ops Q i K a x.w := by
  obtain ⟨hnd, o', ho', hall⟩ := readys_mem.1 hi
  rw [ho] at ho'
  cases ho'
  obtain ⟨s1, s2⟩ := static_spec hst
  have hilt : i < ops.size := (Array.getElem?_eq_some_iff.1 ho).1
  have hll : i < listed.size := by rw [h.size]; exact hilt
  have bit : ∀ k, (done ||| 2 ^ i).testBit k = true ↔ done.testBit k = true ∨ k = i := by
    intro k
    rw [Nat.testBit_or, Bool.or_eq_true, Nat.testBit_two_pow, decide_eq_true_eq]
    exact or_congr Iff.rfl eq_comm
  have hDi : D i = none := by
    cases hd : D i with
    | none => rfl
    | some p => rw [(h.d1 i p hd).1] at hnd; cases hnd
  have Dne : ∀ {j p}, D j = some p → j ≠ i := fun {j p} hj e => by subst e; rw [hDi] at hj; cases hj
  have hunl : ∀ {j q}, D j = some q → listed.getD j false = false := fun {j q} hj => (getD_lt (h.d1 j q hj).2.1).2
  have aheadL : ∀ j, ((Region.before ops).getD i 0).testBit j = true → listed.getD j false = true := fun j hb =>
    ahead_of (ops := ops) (fun k => listed.getD k false = true) (fun k q hq hk => h.ld k q hq hk) i j o ho hr hb
  have notBehind : ∀ j, done.testBit j = true → ((Region.before ops).getD j 0).testBit i = false := by
    intro j hj
    cases hb : ((Region.before ops).getD j 0).testBit i with
    | false => rfl
    | true =>
      have hjl := (h.d2 j hj).1
      have := ahead_of (ops := ops) (fun k => done.testBit k = true) (fun k q hq hk => h.dd k q hq hk) j i (ops[j]'hjl) (Array.getElem?_eq_getElem hjl) (h.dd j _ (Array.getElem?_eq_getElem hjl) hj) hb
      rw [this] at hnd
      cases hnd
  -- nobody that is owed touches what i looks at, or writes
  have apart : ∀ j q oj, D j = some q → ops[j]? = some oj → clash ops oj o = false := by
    intro j q oj hj hoj
    cases hc : clash ops oj o with
    | false => rfl
    | true =>
      rcases (s2 j i oj o (Dne hj) hoj ho).2 hc with hb | hb
      · have := aheadL j hb
        rw [hunl hj] at this
        cases this
      · rw [notBehind j (h.d1 j q hj).1] at hb
        cases hb
  have hknown : Known x σ.env a.tmps (o.looksAt ops) := by
    intro t ht v hv
    rcases h.env t v hv with ⟨j, q, oj, g1, g2, g3⟩ | h1
    · have := apart j q oj g1 g2
      rw [clash_of_looks g3 ht] at this
      cases this
    · exact h1
  have hkop : KnownOp x σ.env a.tmps o := fun t ht => hknown t (mem_looks ht)
  have hpend : ∀ d p, D d = some p → d ∈ pends P ops (Region.before ops) done i := by
    intro d p hd
    obtain ⟨h1, h2, h3⟩ := h.d1 d p hd
    unfold pends
    rw [List.mem_filter, List.mem_range]
    refine ⟨(h.d2 d h1).1, ?_⟩
    simp only [h1, h3, Bool.and_true, Bool.true_and, Bool.not_eq_true']
    cases hb : ((Region.before ops).getD i 0).testBit d with
    | false => rfl
    | true =>
      have := aheadL d hb
      rw [hunl hd] at this
      cases this
  have next : ∀ (σ' : St) (v : AV) (y : Cx) (u : Value), σ'.env = σ.env → Step W x y → HOk W y σ'.H σ'.nxt → RelV y v u → (∀ d ∈ pends P ops (Region.before ops) done i, ∀ id, lk d Tr = some (some id) → lk id σ'.H = lk id σ.H) →
      DInv P W x0 N ops (done ||| 2 ^ i) (listed.setIfInBounds i true) (σ'.put o.dst v) Tr D y (a.put o.dst u) := by
    intro σ' v y u henv hsty hoky hrv hsame
    have putH : (σ'.put o.dst v).H = σ'.H := by cases o.dst <;> rfl
    have putN : (σ'.put o.dst v).nxt = σ'.nxt := by cases o.dst <;> rfl
    have hsz : (a.put o.dst u).tmps.size = N := by
      cases hd : o.dst <;> simp [Act.put, h.n]
    have old : ∀ t w, o.dst ≠ some t → a.tmps[t]? = some w → (a.put o.dst u).tmps[t]? = some w := by
      intro t w hne hw
      cases hd : o.dst with
      | none => exact hw
      | some d =>
        simp only [Act.put]
        rw [Array.getElem?_setIfInBounds_ne (fun e => hne (by rw [hd, e]))]
        exact hw
    have new : ∀ t, o.dst = some t → (a.put o.dst u).tmps[t]? = some u := by
      intro t ht
      have := hN t ht
      simp [Act.put, ht, h.n, this]
    have lkput : ∀ t w, lk t (σ'.put o.dst v).env = some w → (o.dst = some t ∧ w = v) ∨ (o.dst ≠ some t ∧ lk t σ.env = some w) := by
      intro t w hu
      cases hd : o.dst with
      | none => rw [hd] at hu; exact .inr ⟨by simp, by rw [← henv]; exact hu⟩
      | some d =>
        rw [hd] at hu
        simp only [St.put, lk_cons] at hu
        by_cases hc : t = d
        · rw [if_pos hc] at hu; cases hu; exact .inl ⟨by rw [hc], rfl⟩
        · rw [if_neg hc] at hu; exact .inr ⟨by simp; exact fun e => hc e.symm, by rw [← henv]; exact hu⟩
    refine ⟨by simp [h.size], fun j q hj => ?_, fun j hj => ?_, fun j hj => ?_, fun j q hq hj e he hb => ?_, fun j q hq hj e he hb => ?_, h.step.trans hsty, by rw [putH, putN]; exact hoky, fun t w hw => ?_, fun d q oq hd hq => ?_, fun d q oq t hd hq ht => ?_, h.two, fun d q id hd hq => ?_, h.tr, hsz, by cases hd : o.dst <;> simp [Act.put, h.defers]⟩
    · obtain ⟨h1, h2, h3⟩ := h.d1 j q hj
      exact ⟨(bit j).2 (.inl h1), by rw [getD_set' (Dne hj)]; exact h2, h3⟩
    · rcases (bit j).1 hj with hj | rfl
      · obtain ⟨h1, h2⟩ := h.d2 j hj
        exact ⟨h1, h2.imp (fun h2 => (getD_set hll).2 (.inr h2)) id⟩
      · exact ⟨hilt, .inl ((getD_set hll).2 (.inl rfl))⟩
    · rcases (getD_set hll).1 hj with rfl | hj
      · exact (bit _).2 (.inr rfl)
      · exact (bit _).2 (.inl (h.l1 j hj))
    · rcases (getD_set hll).1 hj with rfl | hj
      · rw [ho] at hq
        cases hq
        exact (getD_set hll).2 (.inr (hr e he hb))
      · exact (getD_set hll).2 (.inr (h.ld j q hq hj e he hb))
    · rcases (bit j).1 hj with hj | rfl
      · exact (bit _).2 (.inl (h.dd j q hq hj e he hb))
      · rw [ho] at hq
        cases hq
        exact (bit _).2 (.inl (hall e he hb))
    · rcases lkput t w hw with ⟨h1, rfl⟩ | ⟨h1, h2⟩
      · exact .inr ⟨u, new t h1, hrv⟩
      · rcases h.env t w h2 with h3 | ⟨w', hw', hrw⟩
        · exact .inl h3
        · exact .inr ⟨w', old t w' h1 hw', RelV.mono hsty.ext _ _ hrw⟩
    · obtain ⟨h1, h2, h3⟩ := h.pen d q oq hd hq
      refine ⟨h1, h2, fun t ht w hw => ?_⟩
      rcases h3 t ht w hw with h4 | ⟨w', hw', hrw⟩
      · exact .inl h4
      · refine .inr ⟨w', old t w' (fun hdt => ?_) hw', RelV.mono hsty.ext _ _ hrw⟩
        have := apart d q oq hd hq
        rw [clash_of_looks' hdt ht] at this
        cases this
    · have hg := h.got d q oq t hd hq ht
      have hsd := (s2 d i oq o (Dne hd) hq ho).1
      cases hdo : o.dst with
      | none => simp only [St.put]; rw [henv]; exact hg
      | some d' =>
        simp only [St.put, lk_cons]
        rw [if_neg]
        · rw [henv]; exact hg
        · intro e
          subst e
          simp [sameDst, ht, hdo] at hsd
    · rw [putH, hsame d (hpend d q hd) id (by rw [h.tr d q hd, hq])]
      exact h.tch d q id hd hq
  unfold wpOp
  simp only [ho]
  rcases gd_dec hg hA with ⟨hA, hw⟩ | ⟨hA, hw⟩
  · rw [if_pos (hw x a.tmps hknown)]
    left
    have plain : m.isCall = false → hop m σ (fun v σ' => same (pends P ops (Region.before ops) done i) Tr σ.H σ'.H (cont (σ'.put o.dst v))) → o.wp P a x.w K Q := by
      intro hn hA
      obtain ⟨v, σ', y, u, hS, henv, hrun, hsty, hoky, hrv⟩ := hop_sound (W := W) hH hn hA x a h.ok hkop
      obtain ⟨hc, hsm⟩ := same_spec hS
      have hd := next σ' v y u henv hsty hoky hrv hsm
      unfold Oper.wp
      rcases hrun with hrun | ⟨hrun, rfl⟩
      · rw [hrun]; exact hK _ _ _ hd hc
      · rw [hrun]; exact hK _ _ _ hd hc
    cases m with
    | call f xs =>
      simp only [hany, hcall] at hA
      obtain ⟨of, oargs, ats, hop, hf, hxs⟩ := convH_call hH
      obtain ⟨fv, hfv, hrf⟩ := gx_sound hf hA
      obtain ⟨as, has, hra⟩ := gxs_sound hxs hfv
      have kf : Known x σ.env a.tmps f.tmps := hkop.on fun t ht => by simp [hop, Op.operands, Call.operands, convX_tmps hf t ht]
      have ka : Known x σ.env a.tmps (tmpsOf xs) := hkop.on fun t ht => by
        have := convXs_tmps hxs t ht
        simp only [hop, Op.operands, Call.operands, Array.toList_append, List.mem_append]
        exact .inr this
      cases fv with
      | fn fn first caps =>
        cases fn with
        | func fid =>
          have hrf' := hrf x a kf
          simp only [RelV] at hrf'
          obtain ⟨va, vc, ef, r1, r2⟩ := hrf'
          have hargs : RelVs x (first ++ (as ++ caps)) (va ++ (oargs.map a.eval ++ vc)).toList := by
            simp only [Array.toList_append]
            exact RelVs_append r1 (RelVs_append (by simpa using hra x a ka) r2)
          have hexec : (execOp a.eval o).run P x.w = (callFunc fid (va ++ (oargs.map a.eval ++ vc))).run P x.w := by
            simp only [execOp, hop, resolve, Deferred.ofValue, ef, invoke, pure_bind, Array.append_assoc]
          unfold Oper.wp
          rw [hexec]
          rcases has.go W x _ h.ok hargs with ⟨e1, e2⟩ | ⟨v, y, r', H', n', e1, e2, e3, e4, e5⟩
          · rw [e1]
            simp only [Oper.upon]
            refine e2.mono fun e w' ⟨v, he, y, r', H', n', hw', hS, hsty, hoky, hrv⟩ => ?_
            subst he
            subst hw'
            obtain ⟨hc, hsm⟩ := same_spec hS
            exact hK _ _ _ (next { env := σ.env, H := H', nxt := n' } r' y v rfl hsty hoky hrv hsm) hc
          · rw [e1]
            obtain ⟨hc, hsm⟩ := same_spec e2
            exact hK _ _ _ (next { env := σ.env, H := H', nxt := n' } r' y v rfl e3 e4 e5 hsm) hc
        | _ => exact has.elim
      | _ => exact has.elim
    | _ => exact plain rfl hA
  · rw [if_neg (by simp [hw x a.tmps hknown])]
    exact hK _ _ _ (next σ (.tup []) x undef rfl (Step.refl W x) h.ok (undef_rel x) fun _ _ _ _ => rfl) hA

theorem convI_spec {o : Oper} {m : MI} (h : convI P N ops o = some m) : (∀ t, o.dst = some t → t < N) ∧ ∃ g, convGuard ops o.guard = some g ∧
    ((∃ mo, convL P o.op = some mo ∧ m = .l o.dst (isGuard ops o.dst) g mo) ∨ (convL P o.op = none ∧ ∃ mo, convH P o.op = some mo ∧ m = .h o.dst g mo)) := by
  unfold convI at h
  split at h
  · rename_i g hd hg
    refine ⟨dstOk_spec hd, g, hg, ?_⟩
    cases hl : convL P o.op with
    | some mo =>
      simp only [hl, Option.some.injEq] at h
      exact .inl ⟨mo, rfl, h.symm⟩
    | none =>
      simp only [hl] at h
      cases hh : convH P o.op with
      | none => simp [hh] at h
      | some mo =>
        simp only [hh, Option.some.injEq] at h
        exact .inr ⟨rfl, mo, rfl, h.symm⟩
  · cases h

/-- The ways on from a place where only heavy operations may come up. -/
theorem mkH_spec {fuel done : Nat} {σ : St} {Tr : List (Nat × Option Nat)} {K : St → Prop} : ∀ {r : List Nat} {t : DT}, mkH P N ops (Region.before ops) (mkT P N ops (Region.before ops) fuel) done r = some t → adr P t σ Tr K → ∀ h ∈ r, ∃ o m t', ops[h]? = some o ∧ convI P N ops o = some m ∧
    mkT P N ops (Region.before ops) fuel (done ||| 2 ^ h) = some t' ∧ (match m with
      | .h d g o => gd σ.env g (hany P o σ fun v σ' => same (pends P ops (Region.before ops) done h) Tr σ.H σ'.H (adr P t' (σ'.put d v) Tr K)) (adr P t' (σ.put d (.tup [])) Tr K)
      | _ => False)
  | [], t, _, _, h, hm => by cases hm
  | h0 :: r, t, hk, ha, h, hm => by
    simp only [mkH] at hk
    split at hk
    · rename_i o ho
      split at hk
      · rename_i m t' rest h1 h2 h3
        simp only [Option.some.injEq] at hk
        subst hk
        have both : (match m with
            | .h d g o => gd σ.env g (hany P o σ fun v σ' => same (pends P ops (Region.before ops) done h0) Tr σ.H σ'.H (adr P t' (σ'.put d v) Tr K)) (adr P t' (σ.put d (.tup [])) Tr K)
            | _ => False) ∧ adr P rest σ Tr K := by
          cases rest with
          | nil => exact ⟨by cases m <;> exact ha, trivial⟩
          | fin => cases m <;> exact ha
          | light _ _ _ => cases m <;> exact ha
          | heavy _ _ _ _ _ => cases m <;> exact ha
        rcases List.mem_cons.1 hm with rfl | hm
        · exact ⟨o, m, t', ho, h1, h2, by cases m <;> exact both.1⟩
        · exact mkH_spec h3 both.2 h hm
      · cases hk
    · cases hk

/-- The claim: from such a place the machine comes through, whatever it takes next. -/
theorem adr_core (hst : staticOk ops (Region.before ops) = true) {Q : Exit → Act → World → Prop} {K : St → Prop} (hQ : ∀ σ a w, K σ → SRel W x0 N σ a w → Q .normal a w) :
    ∀ (fuelT : Nat) (done : Nat) (t : DT) (fuel : Nat) (listed : Array Bool) (σ : St) (Tr : List (Nat × Option Nat)) (D : Nat → Option Pen) (x : Cx) (a : Act), mkT P N ops (Region.before ops) fuelT done = some t → adr P t σ Tr K → DInv P W x0 N ops done listed σ Tr D x a →
      ((List.range ops.size).countP fun i => !listed.getD i false) ≤ fuel → wpAny P .any ops Q fuel listed a x.w := by
  obtain ⟨s1, s2⟩ := static_spec hst
  -- the machine's own steps, where ours stand at a heavy operation, or at the end
  have go : ∀ (done : Nat) (σ : St) (Tr : List (Nat × Option Nat)),
      (∀ i ∈ readys ops done, ∃ o g m, ops[i]? = some o ∧ convL P o.op = none ∧ convH P o.op = some m ∧ convGuard ops o.guard = some g ∧ (∀ t, o.dst = some t → t < N) ∧ ∃ cont : St → Prop, gd σ.env g (hany P m σ fun v σ' => same (pends P ops (Region.before ops) done i) Tr σ.H σ'.H (cont (σ'.put o.dst v))) (cont (σ.put o.dst (.tup []))) ∧
        ∀ fuel listed σ' D x a, cont σ' → DInv P W x0 N ops (done ||| 2 ^ i) listed σ' Tr D x a → ((List.range ops.size).countP fun i => !listed.getD i false) ≤ fuel → wpAny P .any ops Q fuel listed a x.w) →
      (readys ops done = [] → K σ) →
      ∀ (fuel : Nat) (listed : Array Bool) (D : Nat → Option Pen) (x : Cx) (a : Act), DInv P W x0 N ops done listed σ Tr D x a → ((List.range ops.size).countP fun i => !listed.getD i false) ≤ fuel → wpAny P .any ops Q fuel listed a x.w := by
    intro done σ Tr hheavy hend fuel
    -- at the end
    have fin : ∀ (listed : Array Bool) (D : Nat → Option Pen) (x : Cx) (a : Act), DInv P W x0 N ops done listed σ Tr D x a → Region.ready .any ops listed = [] → Q .normal a x.w := by
      intro listed D x a h hr
      have noD : ∀ j p, D j ≠ some p := by
        intro j
        induction j using Nat.strongRecOn with
        | _ j ih =>
          intro p hj
          obtain ⟨h1, h2, h3⟩ := h.d1 j p hj
          have hjl := (h.d2 j h1).1
          have : j ∈ Region.ready .any ops listed := by
            rw [mem_ready]
            refine ⟨h2, ops[j]'hjl, Array.getElem?_eq_getElem hjl, fun e he hb => ?_⟩
            have hlt := s1 j _ (Array.getElem?_eq_getElem hjl) e he hb
            rcases (h.d2 e.on (h.dd j _ (Array.getElem?_eq_getElem hjl) h1 e he hb)).2 with h4 | ⟨q, hq⟩
            · exact h4
            · exact absurd hq (ih e.on hlt q)
          rw [hr] at this
          cases this
      have doneL : ∀ j, done.testBit j = true → listed.getD j false = true := fun j hj => ((h.d2 j hj).2).resolve_right fun ⟨p, hp⟩ => noD j p hp
      have hrd : readys ops done = [] := by
        cases hrr : readys ops done with
        | nil => rfl
        | cons i r =>
          have hi : i ∈ readys ops done := by rw [hrr]; simp
          obtain ⟨hnd, o, ho, hall⟩ := readys_mem.1 hi
          have hilt : i < ops.size := (Array.getElem?_eq_some_iff.1 ho).1
          have : i ∈ Region.ready .any ops listed := by
            rw [mem_ready]
            refine ⟨?_, o, ho, fun e he hb => doneL _ (hall e he hb)⟩
            cases hl : listed.getD i true with
            | false => rfl
            | true =>
              have hsz := h.size
              have : listed.getD i false = true := by
                simp [show i < listed.size by omega] at hl ⊢
                exact hl
              rw [h.l1 i this] at hnd
              cases hnd
          rw [hr] at this
          cases this
      refine hQ σ a x.w (hend hrd) ⟨x, rfl, h.step, h.ok, fun t v hv => ?_, h.n, h.defers⟩
      rcases h.env t v hv with ⟨j, p, o, g1, _⟩ | h1
      · exact absurd g1 (noD j p)
      · exact h1
    induction fuel with
    | zero =>
      intro listed D x a h hc
      have all : ∀ i, i < ops.size → listed.getD i false = true := by
        intro i hi
        have := List.countP_eq_zero.1 (Nat.le_zero.1 hc) i (List.mem_range.2 hi)
        simpa using this
      have hr : Region.ready .any ops listed = [] := by
        cases hrr : Region.ready .any ops listed with
        | nil => rfl
        | cons i r =>
          have hi : i ∈ Region.ready .any ops listed := by rw [hrr]; simp
          obtain ⟨h1, o, ho, _⟩ := mem_ready.1 hi
          have := (getD_lt h1).2
          rw [all i (Array.getElem?_eq_some_iff.1 ho).1] at this
          cases this
      exact ⟨hr, fin listed D x a h hr⟩
    | succ fuel ih =>
      intro listed D x a h hc
      refine ⟨fun hr => fin listed D x a h hr, fun i hi => ?_⟩
      obtain ⟨hul, o, ho, hall⟩ := mem_ready.1 hi
      obtain ⟨hlt, hul'⟩ := getD_lt hul
      have hilt : i < ops.size := (Array.getElem?_eq_some_iff.1 ho).1
      have hcnt : ((List.range ops.size).countP fun j => !(listed.setIfInBounds i true).getD j false) ≤ fuel := by
        have hstrict : ((List.range ops.size).countP fun j => !(listed.setIfInBounds i true).getD j false) < ((List.range ops.size).countP fun j => !listed.getD j false) := by
          have key : ∀ (l : List Nat), i ∈ l → l.Nodup → (l.countP fun j => !(listed.setIfInBounds i true).getD j false) < (l.countP fun j => !listed.getD j false) := by
            intro l
            induction l with
            | nil => intro hm; cases hm
            | cons k l ihl =>
              intro hm hnd
              have hnd' := List.nodup_cons.1 hnd
              simp only [List.countP_cons]
              have hle : ∀ (l : List Nat), (l.countP fun j => !(listed.setIfInBounds i true).getD j false) ≤ (l.countP fun j => !listed.getD j false) := by
                intro l
                refine List.countP_mono_left fun j _ hj => ?_
                simp only [Bool.not_eq_true'] at hj ⊢
                cases hjl : listed.getD j false with
                | false => rfl
                | true =>
                  have := (getD_set hlt).2 (.inr hjl)
                  rw [this] at hj
                  cases hj
              by_cases hk : k = i
              · subst hk
                have e1 : (listed.setIfInBounds k true).getD k false = true := (getD_set hlt).2 (.inl rfl)
                have := hle l
                rw [e1, hul']
                simp only [Bool.not_true, Bool.not_false, if_true, Bool.false_eq_true, if_false]
                omega
              · have hm' : i ∈ l := by
                  rcases List.mem_cons.1 hm with e | e
                  · exact absurd e.symm hk
                  · exact e
                have := ihl hm' hnd'.2
                have e2 : (listed.setIfInBounds i true).getD k false = listed.getD k false := by
                  simp [Array.getElem?_setIfInBounds_ne (Ne.symm hk)]
                rw [e2]
                omega
          exact key _ (List.mem_range.2 hilt) List.nodup_range
        omega
      by_cases hd : done.testBit i = true
      · -- it is owed
        rcases (h.d2 i hd).2 with h1 | ⟨p, hp⟩
        · rw [h1] at hul'; cases hul'
        · exact h.pay hst hp ho hall fun a' h' => ih _ _ x a' h' hcnt
      · -- it is a heavy one
        have hrd : i ∈ readys ops done := by
          rw [readys_mem]
          refine ⟨by simpa using hd, o, ho, fun e he hb => h.l1 _ (hall e he hb)⟩
        obtain ⟨o', g, m, ho', h1, h2, h3, h4, cont, h5, h6⟩ := hheavy i hrd
        rw [ho] at ho'
        cases ho'
        exact h.heavy hst hrd ho h1 h2 h3 h4 hall h5 fun σ' x' a' h' hc' => h6 fuel _ σ' D x' a' hc' h' hcnt
  intro fuelT
  induction fuelT with
  | zero =>
    intro done t fuel listed σ Tr D x a hT ha h hc
    simp only [mkT] at hT
    cases hrr : readys ops done with
    | nil =>
      rw [hrr] at hT
      simp only [Option.some.injEq] at hT
      subst hT
      simp only [adr] at ha
      exact go done σ Tr (fun i hi => by rw [hrr] at hi; cases hi) (fun _ => ha) fuel listed D x a h hc
    | cons _ _ => rw [hrr] at hT; simp at hT
  | succ fuelT ih =>
    intro done t fuel listed σ Tr D x a hT ha h hc
    simp only [mkT] at hT
    cases hrr : readys ops done with
    | nil =>
      rw [hrr] at hT
      simp only [Option.some.injEq] at hT
      subst hT
      simp only [adr] at ha
      exact go done σ Tr (fun i hi => by rw [hrr] at hi; cases hi) (fun _ => ha) fuel listed D x a h hc
    | cons i0 r0 =>
      rw [hrr] at hT
      simp only at hT
      cases hf : (i0 :: r0).find? (isL P ops) with
      | some i =>
        simp only [hf] at hT
        have him : i ∈ readys ops done := by rw [hrr]; exact List.mem_of_find?_eq_some hf
        have hL : isL P ops i = true := by simpa using List.find?_some hf
        split at hT
        · rename_i o ho
          split at hT
          · rename_i m t' h1 h2
            simp only [Option.some.injEq] at hT
            subst hT
            obtain ⟨hN, g, hg, hm⟩ := convI_spec h1
            have hLs : ∃ mo, convL P o.op = some mo := by
              simp only [isL, ho] at hL
              exact Option.isSome_iff_exists.1 hL
            rcases hm with ⟨mo, hmo, rfl⟩ | ⟨hno, _⟩
            · simp only [adr] at ha
              have sub : ∀ t ∈ mo.tmps, t ∈ o.looksAt ops := fun t ht => mem_looks (convL_tmps hmo t ht)
              rcases gd_dec hg ha with ⟨ha, hw⟩ | ⟨ha, hw⟩
              · obtain ⟨v, tch, hs, hy⟩ := lop_sound hmo ha
                obtain ⟨v', hv', hrel⟩ := spl_sound hs
                refine ih _ t' fuel listed _ _ _ x a h2 hv' (h.take (v := v') (tch := tch) hst him ho hL hN fun y b hk ht => ?_) hc
                obtain ⟨u, hrun, hru⟩ := hy y b (hk.sub sub) ht
                exact .inl ⟨hw y b.tmps hk, u, hrun, hrel y u hru⟩
              · exact ih _ t' fuel listed _ _ _ x a h2 ha (h.take (v := .tup []) (tch := none) hst him ho hL hN fun y b hk _ => .inr ⟨hw y b.tmps hk, undef_rel y⟩) hc
            · obtain ⟨mo, hmo⟩ := hLs
              rw [hno] at hmo
              cases hmo
          · cases hT
        · cases hT
      | none =>
        simp only [hf] at hT
        have hnl : ∀ i ∈ readys ops done, isL P ops i = false := by
          intro i hi
          rw [hrr] at hi
          have := List.find?_eq_none.1 hf i hi
          simpa using this
        refine go done σ Tr (fun i hi => ?_) (fun e => by rw [hrr] at e; cases e) fuel listed D x a h hc
        obtain ⟨o, m, t', h1, h2, h3, h4⟩ := mkH_spec hT ha i (by rw [hrr] at hi; exact hi)
        obtain ⟨hN, g, hg, hm⟩ := convI_spec h2
        rcases hm with ⟨mo, hmo, rfl⟩ | ⟨hno, mo, hmo, rfl⟩
        · exact h4.elim
        · exact ⟨o, g, mo, h1, hno, hmo, hg, hN, fun σ' => adr P t' σ' Tr K, h4, fun fuel' listed' σ' D' x' a' hc' hd' hcc => ih _ t' fuel' listed' σ' Tr D' x' a' h3 hc' hd' hcc⟩

/-- A region that draws its order. -/
theorem adr_sound (hmix : P.follows .mixedOrders = true) {id : Nat} {t : DT} {σ : St} {K : St → Prop} {a : Act} {w : World} {Q : Exit → Act → World → Prop} (hc : convD P N ops = some t) (h : adr P t σ [] K) (hs : SRel W x0 N σ a w)
    (hQ : ∀ σ a w, K σ → SRel W x0 N σ a w → Q .normal a w) : (Code.region id ops true).wp P Q a w := by
  unfold convD at hc
  simp only at hc
  split at hc
  · rename_i hst
    refine wp_region_any hmix ?_
    obtain ⟨x, rfl, h1, h2, h3, h4, h5⟩ := hs
    have hst1 := Step.drew (W := W) (x := x)
    have := adr_core hst hQ ops.size 0 t ops.size (Array.replicate ops.size false) σ [] (fun _ => none) { w := x.w.drew, I := x.I, loc := x.loc } a hc h
      ⟨by simp, fun i p hp => by simp at hp, fun i hi => by simp at hi, fun i hi => by
          rcases Nat.lt_or_ge i ops.size with h' | h'
          · simp [h'] at hi
          · simp [Array.getElem?_eq_none, h'] at hi,
        fun i o ho hi => by
          rcases Nat.lt_or_ge i ops.size with h' | h'
          · simp [h'] at hi
          · simp [Array.getElem?_eq_none, h'] at hi,
        fun i o ho hi => by simp at hi, h1.trans hst1, HOk.drew h2, fun t v hv => .inr (EnvOk.mono hst1.ext h3 t v hv), fun d p o hd => by simp at hd, fun d p o t hd => by simp at hd, fun d p e q o t hd => by simp at hd,
        fun d p id hd => by simp at hd, fun d p hd => by simp at hd, h4, h5⟩
      (by
        have := List.countP_le_length (p := fun i => !(Array.replicate ops.size false).getD i false) (l := List.range ops.size)
        simpa using this)
    exact this
  · cases hc

end
end Go.Hb

namespace Go.Hb
open Go.RowKit
variable [Amb]

/-! ### Code -/

inductive MX where
  | normal | exit (id : Nat) | ret

inductive MC where
  | skip
  | reg (ops : List MI)
  | dreg (t : DT)
  | seq (a b : MC)
  | cond (x : X) (a b : MC)
  | block (id : Nat) (c : MC)
  | loop (c : MC)
  | exit (id : Nat)
  | ret

/-- What is known at σ, is known at σ' as well (where no id from B on came in). -/
def Le (B : Nat) (σ σ' : St) : Prop := ∀ (W : Nat → Prop) (x0 : Cx) (N : Nat) (a : Act) (w : World), (∀ id b, x0.loc id = some b → id < B) → SRel W x0 N σ a w → SRel W x0 N σ' a w
theorem Le.refl (B : Nat) (σ : St) : Le B σ σ := fun _ _ _ _ _ _ h => h
theorem Le.trans {B : Nat} {a b c : St} (h : Le B a b) (k : Le B b c) : Le B a c := fun W x0 N p w q r => k W x0 N p w q (h W x0 N p w q r)

def awp (P : Program) : MC → St → (MX → St → Prop) → Prop
  | .skip, σ, K => K .normal σ
  | .reg ops, σ, K => aops P ops σ fun σ' => K .normal σ'
  | .dreg t, σ, K => adr P t σ [] fun σ' => K .normal σ'
  | .seq a b, σ, K => awp P a σ fun e σ' => match e with
    | .normal => awp P b σ' K
    | e => K e σ'
  | .cond x a b, σ, K => gx σ.env (fun v => match v with
    | .tt => awp P a σ K
    | .ff => awp P b σ K
    | .b y => brk y (awp P a σ K) (awp P b σ K)
    | _ => False) x
  | .block id c, σ, K => awp P c σ fun e σ' => match e with
    | .exit i => (match Nat.beq i id with
      | true => K .normal σ'
      | false => K (.exit i) σ')
    | e => K e σ'
  | .loop c, σ, K => ∃ (I : St → Prop) (μ : St → Nat), (∃ σc, Le σ.nxt σ σc ∧ I σc) ∧ ∀ σ', I σ' → awp P c σ' fun e σ'' => match e with
    | .normal => ∃ σc, Le σ.nxt σ'' σc ∧ I σc ∧ μ σc < μ σ'
    | e => K e σ''
  | .exit id, σ, K => K (.exit id) σ
  | .ret, σ, K => K .ret σ

def convC (P : Program) (N : Nat) : Code → Option MC
  | .skip => some .skip
  | .region _ ops false => (convIs P N ops ops.toList).map .reg
  | .region _ ops true => (convD P N ops).map .dreg
  | .seq a b => match convC P N a, convC P N b with
    | some a, some b => some (.seq a b)
    | _, _ => none
  | .cond x a b => match convX x, convC P N a, convC P N b with
    | some x, some a, some b => some (.cond x a b)
    | _, _, _ => none
  | .block id c => (convC P N c).map (.block id)
  | .loop c => (convC P N c).map .loop
  | .exit id => some (.exit id)
  | .ret => some .ret
  | .refuse _ => some (.reg [.h none none (.call (.c .nils) [])])
  | _ => none

def exitOf : MX → Exit
  | .normal => .normal
  | .exit id => .exit id
  | .ret => .ret

section
variable {P : Program} {W : Nat → Prop} {x0 : Cx} {N : Nat}

/-- The post of a piece of code. -/
def MPost (W : Nat → Prop) (x0 : Cx) (N : Nat) (K : MX → St → Prop) : Exit → Act → World → Prop := fun e a w => ∃ m σ, e = exitOf m ∧ K m σ ∧ SRel W x0 N σ a w

theorem awp_sound (hmix : P.follows .mixedOrders = true) : ∀ {c : Code} {m : MC} {σ : St} {K : MX → St → Prop} {a : Act} {w : World}, convC P N c = some m → awp P m σ K → SRel W x0 N σ a w → c.wp P (MPost W x0 N K) a w := by
  intro c
  induction c with
  | skip =>
    intro m σ K a w hc h hs
    simp only [convC, Option.some.injEq] at hc
    subst hc
    exact wp_skip ⟨.normal, σ, rfl, h, hs⟩
  | region id ops draw =>
    intro m σ K a w hc h hs
    cases draw with
    | true =>
      simp only [convC, Option.map_eq_some_iff] at hc
      obtain ⟨t, ht, rfl⟩ := hc
      exact adr_sound hmix ht h hs fun σ' a' w' hK hs' => ⟨.normal, σ', rfl, hK, hs'⟩
    | false =>
      simp only [convC, Option.map_eq_some_iff] at hc
      obtain ⟨ms, hm, rfl⟩ := hc
      exact wp_region_list (aops_sound (fun σ' a' w' hK hs' => ⟨.normal, σ', rfl, hK, hs'⟩) hm h hs)
  | seq c1 c2 ih1 ih2 =>
    intro m σ K a w hc h hs
    simp only [convC] at hc
    split at hc
    · rename_i m1 m2 h1 h2
      simp only [Option.some.injEq] at hc
      subst hc
      refine wp_seq (wp_mono (ih1 h1 h hs) ?_)
      rintro e a' w' ⟨mx, σ', rfl, hK, hs'⟩
      cases mx with
      | normal => exact ih2 h2 hK hs'
      | exit id => exact ⟨.exit id, σ', rfl, hK, hs'⟩
      | ret => exact ⟨.ret, σ', rfl, hK, hs'⟩
    · cases hc
  | cond x c1 c2 ih1 ih2 =>
    intro m σ K a w hc h hs
    simp only [convC] at hc
    split at hc
    · rename_i mx m1 m2 h0 h1 h2
      simp only [Option.some.injEq] at hc
      subst hc
      obtain ⟨v, hv, hr⟩ := gx_sound h0 h
      have hs' := hs
      obtain ⟨y, rfl, k1, k2, k3, k4, k5⟩ := hs
      have hr := hr y a (k3.known _)
      cases v with
      | tt => exact wp_cond_true (by simpa [RelV] using hr) (ih1 h1 hv hs')
      | ff => exact wp_cond_false (by simpa [RelV] using hr) (ih2 h2 hv hs')
      | b z =>
        have e : a.eval x = .bool z := by simpa [RelV] using hr
        cases z with
        | true => exact wp_cond_true e (ih1 h1 (hv.1 rfl) hs')
        | false => exact wp_cond_false e (ih2 h2 (hv.2 rfl) hs')
      | _ => exact hv.elim
    · cases hc
  | block id c ih =>
    intro m σ K a w hc h hs
    simp only [convC, Option.map_eq_some_iff] at hc
    obtain ⟨m', h1, rfl⟩ := hc
    refine wp_block (wp_mono (ih h1 h hs) ?_)
    rintro e a' w' ⟨mx, σ', rfl, hK, hs'⟩
    cases mx with
    | normal => exact ⟨.normal, σ', rfl, hK, hs'⟩
    | ret => exact ⟨.ret, σ', rfl, hK, hs'⟩
    | exit i =>
      simp only at hK
      simp only [exitOf, Exit.inBlock]
      cases hb : Nat.beq i id with
      | true =>
        simp only [hb] at hK
        rw [if_pos (Nat.eq_of_beq_eq_true hb)]
        exact ⟨.normal, σ', rfl, hK, hs'⟩
      | false =>
        simp only [hb] at hK
        rw [if_neg (fun e => by subst e; simp at hb)]
        exact ⟨.exit i, σ', rfl, hK, hs'⟩
  | loop c ih =>
    intro m σ K a w hc h hs
    simp only [convC, Option.map_eq_some_iff] at hc
    obtain ⟨m', h1, rfl⟩ := hc
    obtain ⟨I, μ, ⟨σc, hle, hI⟩, round⟩ := h
    have hB : ∀ id b, x0.loc id = some b → id < σ.nxt := by
      obtain ⟨x, _, h1, h2, _⟩ := hs
      intro id b e
      rcases Nat.lt_or_ge id σ.nxt with hlt | hge
      · exact hlt
      · have := h1.ext.loc id b e
        rw [h2.fresh id hge] at this
        cases this
    intro b k cs
    have key : ∀ n σ' a w, μ σ' = n → I σ' → SRel W x0 N σ' a w →
        ∃ e a' w', MPost W x0 N K e a' w' ∧ Arrives P (lone (b.at a (.code c :: .inLoop c :: k)) cs w) b k cs e a' w' := by
      intro n
      induction n using Nat.strongRecOn with
      | _ n ihn =>
        intro σ' a w hn hI hs
        obtain ⟨e, a₁, w₁, ⟨mx, σ'', rfl, hK, hs''⟩, harr⟩ := ih h1 (round σ' hI) hs b (.inLoop c :: k) cs
        cases mx with
        | normal =>
          obtain ⟨σc', hle', hI', hlt⟩ := hK
          obtain ⟨e₂, a₂, w₂, hq₂, harr₂⟩ := ihn (μ σc') (hn ▸ hlt) σc' a₁ w₁ rfl hI' (hle' _ _ _ _ _ hB hs'')
          exact ⟨e₂, a₂, w₂, hq₂, .of_steps (Steps.trans harr (.one step_inLoop)) harr₂⟩
        | exit id => exact ⟨_, a₁, w₁, ⟨.exit id, σ'', rfl, hK, hs''⟩, .pass (x := .inLoop c) rfl (fun _ _ => .inl (by simp [exitOf])) harr⟩
        | ret => exact ⟨_, a₁, w₁, ⟨.ret, σ'', rfl, hK, hs''⟩, .pass (x := .inLoop c) rfl (fun _ _ => .inl (by simp [exitOf])) harr⟩
    obtain ⟨e, a', w', hq, harr⟩ := key _ σc a w rfl hI (hle _ _ _ _ _ hB hs)
    exact ⟨e, a', w', hq, .of_steps (.one step_loop) harr⟩
  | exit id =>
    intro m σ K a w hc h hs
    simp only [convC, Option.some.injEq] at hc
    subst hc
    exact wp_exit ⟨.exit id, σ, rfl, h, hs⟩
  | ret =>
    intro m σ K a w hc h hs
    simp only [convC, Option.some.injEq] at hc
    subst hc
    exact wp_ret ⟨.ret, σ, rfl, h, hs⟩
  | refuse why =>
    intro m σ K a w hc h hs
    simp only [convC, Option.some.injEq] at hc
    subst hc
    exact h.elim
  | _ =>
    intro m σ K a w hc h hs
    simp [convC] at hc

end
end Go.Hb

namespace Go.Hb
open Go.RowKit
variable [Amb]

/-! ### Ids -/

mutual
/-- All ids are below n. -/
def idb (n : Nat) : AV → Bool
  | .p id _ => Nat.blt id n
  | .pr id _ _ _ => Nat.blt id n
  | .sl id _ _ _ => Nat.blt id n
  | .sa id _ _ _ => Nat.blt id n
  | .sk id _ _ _ _ => Nat.blt id n
  | .agg xs => idbs n xs
  | .tup xs => idbs n xs
  | .fn _ a c => (match idbs n a with
    | true => idbs n c
    | false => false)
  | _ => true
def idbs (n : Nat) : List AV → Bool
  | [] => true
  | a :: r => match idb n a with
    | true => idbs n r
    | false => false
end

mutual
theorem RelV.cut {n : Nat} {x : Cx} {loc : Nat → Option Nat} (hl : ∀ id b, id < n → x.loc id = some b → loc id = some b) : ∀ (a : AV) (v : Value), idb n a = true → RelV x a v → RelV { w := x.w, I := x.I, loc := loc } a v
  | .tt, v, _, h => by simpa only [RelV] using h
  | .ff, v, _, h => by simpa only [RelV] using h
  | .b _, v, _, h => by simpa only [RelV] using h
  | .i _ _, v, _, h => by simpa only [RelV] using h
  | .s _, v, _, h => by simpa only [RelV] using h
  | .raw _, v, _, h => by simpa only [RelV] using h
  | .fs _ _ _, v, _, h => by simpa only [RelV] using h
  | .nils, v, _, h => by simpa only [RelV] using h
  | .fe _ _ _, v, _, h => by simpa only [RelV] using h
  | .p id k, v, hi, h => by
    simp only [RelV] at h ⊢
    obtain ⟨b, e, r⟩ := h
    exact ⟨b, hl _ _ (by simpa [idb] using hi) e, r⟩
  | .pr id size i j, v, hi, h => by
    simp only [RelV] at h ⊢
    obtain ⟨b, e, r⟩ := h
    exact ⟨b, hl _ _ (by simpa [idb] using hi) e, r⟩
  | .sl id size st k, v, hi, h => by
    simp only [RelV] at h ⊢
    rcases h with h | ⟨b, cap, o, e, r⟩
    · exact .inl h
    · exact .inr ⟨b, cap, o, hl _ _ (by simpa [idb] using hi) e, r⟩
  | .sa id size st k, v, hi, h => by
    simp only [RelV] at h ⊢
    obtain ⟨b, cap, o, e, r⟩ := h
    exact ⟨b, cap, o, hl _ _ (by simpa [idb] using hi) e, r⟩
  | .sk id size st k c, v, hi, h => by
    simp only [RelV] at h ⊢
    obtain ⟨b, o, e, r⟩ := h
    exact ⟨b, o, hl _ _ (by simpa [idb] using hi) e, r⟩
  | .agg xs, v, hi, h => by
    simp only [RelV] at h ⊢
    obtain ⟨vs, e, r⟩ := h
    exact ⟨vs, e, RelVs.cut hl xs _ (by simpa [idb] using hi) r⟩
  | .tup xs, v, hi, h => by
    simp only [RelV] at h ⊢
    obtain ⟨vs, e, r⟩ := h
    exact ⟨vs, e, RelVs.cut hl xs _ (by simpa [idb] using hi) r⟩
  | .fn f a c, v, hi, h => by
    simp only [RelV] at h ⊢
    obtain ⟨p, q, e, r1, r2⟩ := h
    simp only [idb] at hi
    split at hi
    · rename_i h1
      exact ⟨p, q, e, RelVs.cut hl a _ h1 r1, RelVs.cut hl c _ hi r2⟩
    · cases hi
theorem RelVs.cut {n : Nat} {x : Cx} {loc : Nat → Option Nat} (hl : ∀ id b, id < n → x.loc id = some b → loc id = some b) : ∀ (as : List AV) (vs : List Value), idbs n as = true → RelVs x as vs → RelVs { w := x.w, I := x.I, loc := loc } as vs
  | [], [], _, _ => by simp only [RelVs]
  | [], _ :: _, _, h => by simp [RelVs] at h
  | _ :: _, [], _, h => by simp [RelVs] at h
  | a :: as, v :: vs, hi, h => by
    simp only [RelVs] at h ⊢
    simp only [idbs] at hi
    split at hi
    · rename_i h1
      exact ⟨RelV.cut hl a v h1 h.1, RelVs.cut hl as vs hi h.2⟩
    · cases hi
end

/-! ### From one state to a plainer one -/

def subEnv (e : List (Nat × AV)) : List (Nat × AV) → Prop
  | [] => True
  | (t, v) :: r => (match lk t e with
    | some u => u = v
    | none => False) ∧ subEnv e r

def BlkLe : Blk → Blk → Prop
  | .lit cs, .lit cs' => cs = cs'
  | .rows n s c, .rows n' s' c' => n' ≤ n ∧ s = s' ∧ ∀ i j, i < n' → j < s → c i j = c' i j
  | .lit cs, .rows n s c => ∃ cl, cvs cs = some cl ∧ n * s ≤ cl.length ∧ ∀ i j, i < n → j < s → cl[i * s + j]? = some (c i j)
  | _, _ => False

def subH (H : List (Nat × Blk)) : List (Nat × Blk) → Prop
  | [] => True
  | (id, k) :: r => (match lk id H with
    | some k' => BlkLe k' k
    | none => False) ∧ subH H r

def blkIds (n : Nat) : Blk → Bool
  | .lit cs => idbs n cs
  | _ => true

def stIds (σ : St) : Bool :=
  match σ.env.all fun q => idb σ.nxt q.2 with
  | true => σ.H.all fun q => Nat.blt q.1 σ.nxt && blkIds σ.nxt q.2
  | false => false

theorem subEnv_spec {e : List (Nat × AV)} : ∀ {e' : List (Nat × AV)}, subEnv e e' → ∀ t v, lk t e' = some v → lk t e = some v
  | [], _, t, v, h => by simp [lk] at h
  | (t', v') :: r, hs, t, v, h => by
    rw [lk_cons] at h
    simp only [subEnv] at hs
    obtain ⟨h1, h2⟩ := hs
    by_cases hc : t = t'
    · rw [if_pos hc] at h
      cases h
      subst hc
      cases hl : lk t e with
      | none => simp [hl] at h1
      | some u => simp only [hl] at h1; rw [h1]
    · rw [if_neg hc] at h
      exact subEnv_spec h2 t v h
theorem subH_spec {H : List (Nat × Blk)} : ∀ {H' : List (Nat × Blk)}, subH H H' → ∀ id k, lk id H' = some k → ∃ k', lk id H = some k' ∧ BlkLe k' k
  | [], _, id, k, h => by simp [lk] at h
  | (id', k0) :: r, hs, id, k, h => by
    rw [lk_cons] at h
    simp only [subH] at hs
    obtain ⟨h1, h2⟩ := hs
    by_cases hc : id = id'
    · rw [if_pos hc] at h
      cases h
      subst hc
      cases hl : lk id H with
      | none => simp [hl] at h1
      | some u => simp only [hl] at h1; exact ⟨u, rfl, h1⟩
    · rw [if_neg hc] at h
      exact subH_spec h2 id k h

theorem BlkLe.rel {x : Cx} {k k' : Blk} {b : Nat} (h : BlkLe k k') (hr : BlkRel x k b) : BlkRel x k' b := by
  cases k with
  | lit cs =>
    cases k' with
    | lit cs' => simp only [BlkLe] at h; subst h; exact hr
    | rows n s c =>
      obtain ⟨cl, hc, hn, hg⟩ := h
      obtain ⟨arr, ty, fr, e, hf, hrl⟩ := hr
      obtain ⟨hcl, hcg⟩ := cvs_spec hc
      have hal := RelVs_length hrl
      simp only [Array.length_toList] at hal
      refine ⟨arr, ty, fr, e, hf.le (by omega), by omega, fun i j hi hj => ?_⟩
      have hlt : i * s + j < cl.length := (List.getElem?_eq_some_iff.1 (hg i j hi hj)).1
      obtain ⟨c', h1, h2⟩ := hcg (i * s + j) (cs[i * s + j]'(by omega)) (List.getElem?_eq_getElem _)
      obtain ⟨u, hu, hru⟩ := RelVs_get hrl (i * s + j) (cs[i * s + j]'(by omega)) (List.getElem?_eq_getElem _)
      rw [hg i j hi hj] at h1
      cases h1
      exact ⟨u, by simpa using hu, AV.cv_rel h2 hru⟩
    | dead => exact h.elim
  | rows n s c =>
    cases k' with
    | rows n' s' c' =>
      obtain ⟨h1, rfl, h3⟩ := h
      obtain ⟨arr, ty, fr, e, hf, hn, hrl⟩ := hr
      refine ⟨arr, ty, fr, e, hf, Nat.le_trans (Nat.mul_le_mul_right _ h1) hn, fun i j hi hj => ?_⟩
      obtain ⟨u, hu, hru⟩ := hrl i j (by omega) hj
      rw [h3 i j hi hj] at hru
      exact ⟨u, hu, hru⟩
    | _ => exact h.elim
  | dead => exact h.elim

theorem Le.mk {B : Nat} {σ σ' : St} (henv : subEnv σ.env σ'.env) (hH : subH σ.H σ'.H) (hid : stIds σ' = true) (hB : Nat.ble B σ'.nxt = true) : Le B σ σ' := by
  intro W x0 N a w hx0 ⟨x, hw, h1, h2, h3, h4, h5⟩
  subst hw
  have hBle := Nat.le_of_ble_eq_true hB
  have hcut : ∀ id b, id < σ'.nxt → x.loc id = some b → (fun id => if id < σ'.nxt then x.loc id else none) id = some b := fun id b hi e => by simp [hi, e]
  have hids : (∀ q ∈ σ'.env, idb σ'.nxt q.2 = true) ∧ ∀ q ∈ σ'.H, q.1 < σ'.nxt ∧ blkIds σ'.nxt q.2 = true := by
    unfold stIds at hid
    split at hid
    · rename_i he
      refine ⟨List.all_eq_true.1 he, fun q hq => ?_⟩
      have := List.all_eq_true.1 hid q hq
      simpa using this
    · cases hid
  have memE : ∀ {α : Type} (l : List (Nat × α)) t v, lk t l = some v → (t, v) ∈ l := by
    intro α l
    induction l with
    | nil => intro t v h; simp [lk] at h
    | cons q l ih =>
      intro t v h
      obtain ⟨t', v'⟩ := q
      rw [lk_cons] at h
      by_cases hc : t = t'
      · rw [if_pos hc] at h; cases h; subst hc; simp
      · rw [if_neg hc] at h; exact List.mem_cons_of_mem _ (ih t v h)
  have hext : Ext { w := x.w, I := x.I, loc := fun id => if id < σ'.nxt then x.loc id else none } x :=
    ⟨(fun id b e => by
      simp only at e
      by_cases hc : id < σ'.nxt
      · rw [if_pos hc] at e; exact e
      · rw [if_neg hc] at e; cases e), fun _ h => h, fun _ _ => rfl, Nat.le_refl _, fun _ cs _ fr h => ⟨cs, fr, h, rfl⟩⟩
  refine ⟨{ w := x.w, I := x.I, loc := fun id => if id < σ'.nxt then x.loc id else none }, rfl, ⟨⟨fun id b e => ?_, h1.ext.sub, h1.ext.kept, h1.ext.size, h1.ext.rows⟩, h1.os, h1.tape, h1.output, h1.frame, h1.new⟩, ⟨fun id k hk => ?_, fun id k hk hl => ?_, fun id id' k k' b e1 e2 l1 l2 f1 f2 => ?_, fun id hid => ?_, h2.bound, h2.room⟩, fun t v hv => ?_, h4, h5⟩
  · exact hcut id b (by have := hx0 id b e; omega) (h1.ext.loc id b e)
  · exact (hids.2 _ (memE _ _ _ hk)).1
  · have hk' := hids.2 _ (memE _ _ _ hk)
    obtain ⟨k0, g1, g2⟩ := subH_spec hH id k hk
    have hl0 : k0.live = true := by
      cases k0 with
      | dead => exact g2.elim
      | _ => rfl
    rcases h2.blk id k0 g1 hl0 with ⟨v1, v2⟩ | ⟨b, e1, e2, e3, e4, e5⟩
    · refine .inl ⟨?_, by simp only; rw [if_pos hk'.1]; exact v2⟩
      cases k0 with
      | rows n s c =>
        cases k with
        | rows n' s' c' =>
          have := g2.1
          simp only [Blk.void] at v1 ⊢
          omega
        | _ => exact g2.elim
      | _ => exact v1.elim
    · refine .inr ⟨b, hcut id b hk'.1 e1, e2, e3, e4, ?_⟩
      have hr := g2.rel e5
      cases k with
      | lit cs =>
        obtain ⟨arr, ty, fr, q1, q2, q3⟩ := hr
        exact ⟨arr, ty, fr, q1, q2, RelVs.cut (n := σ'.nxt) hcut _ _ (by simpa [blkIds] using hk'.2) q3⟩
      | rows n s c => exact hr
      | dead => cases hl
  · obtain ⟨k0, g1, g2⟩ := subH_spec hH id k e1
    obtain ⟨k0', g1', g2'⟩ := subH_spec hH id' k' e2
    have hl0 : k0.live = true := by
      cases k0 with
      | dead => exact g2.elim
      | _ => rfl
    have hl0' : k0'.live = true := by
      cases k0' with
      | dead => exact g2'.elim
      | _ => rfl
    exact h2.inj id id' k0 k0' b g1 g1' hl0 hl0' (hext.loc _ _ f1) (hext.loc _ _ f2)
  · simp only
    rw [if_neg (by omega)]
  · obtain ⟨u, hu, hr⟩ := h3 t v (subEnv_spec henv t v hv)
    exact ⟨u, hu, RelV.cut (n := σ'.nxt) hcut _ _ (hids.1 _ (memE _ _ _ hv)) hr⟩

/-! ### A function -/

inductive MR where
  | t (n : Nat)
  | cell (n sz : Nat) (ag : Bool)

def convR (P : Program) : List ResultVar → Option (List MR)
  | [] => some []
  | .tmp t :: r => (convR P r).map (.t t :: ·)
  | .cell n t :: r => match tSize P t, tAgg P t, convR P r with
    | some sz, some ag, some rs => some (.cell n sz ag :: rs)
    | _, _, _ => none

def rget (env : List (Nat × AV)) (H : List (Nat × Blk)) : List MR → (List AV → Prop) → Prop
  | [], K => K []
  | .t n :: r, K => gx env (fun v => rget env H r fun vs => K (v :: vs)) (.t n)
  | .cell n sz ag :: r, K => lop env H (.load sz ag (.t n)) fun v _ => rget env H r fun vs => K (v :: vs)

def rres (vs : List AV) : AV :=
  match vs with
  | [v] => v
  | vs => .tup vs

def enumEnv : Nat → List AV → List (Nat × AV)
  | _, [] => []
  | k, a :: r => (k, a) :: enumEnv (k + 1) r

/-- What the program's function is. -/
def FnIs (P : Program) (f : FuncId) (N : Nat) (mc : MC) (rs : List MR) : Prop :=
  P.follows .mixedOrders = true ∧ ∃ fn c, P.funcs[f]? = some fn ∧ fn.body = some c ∧ (fn.name == "runtime.NumGoroutine") = false ∧ fn.ntmps = N ∧ convC P N c = some mc ∧ convR P fn.results.toList = some rs

theorem enumEnv_lk : ∀ (as : List AV) (k t : Nat) (v : AV), lk t (enumEnv k as) = some v → k ≤ t ∧ as[t - k]? = some v
  | [], _, _, _, h => by simp [enumEnv, lk] at h
  | a :: as, k, t, v, h => by
    simp only [enumEnv] at h
    rw [lk_cons] at h
    by_cases hc : t = k
    · rw [if_pos hc] at h
      cases h
      subst hc
      simp
    · rw [if_neg hc] at h
      obtain ⟨h1, h2⟩ := enumEnv_lk as (k + 1) t v h
      refine ⟨by omega, ?_⟩
      rw [show t - k = (t - (k + 1)) + 1 by omega]
      simpa using h2

/-- What is read for one result. -/
def resVar (tmps : Array Value) (r : ResultVar) : Sem Value :=
  match r with
  | .tmp t => pure (tmps.getD t undef)
  | .cell a t => do loadVar t (← asAddr (tmps.getD a undef))

theorem rget_sound {P : Program} {env : List (Nat × AV)} {H : List (Nat × Blk)} : ∀ {rv : List ResultVar} {rs : List MR} {K : List AV → Prop}, convR P rv = some rs → rget env H rs K →
    ∃ vs, K vs ∧ ∀ (W : Nat → Prop) (x : Cx) (tmps : Array Value) (nxt : Nat), HOk W x H nxt → EnvOk x env tmps →
      ∃ us, (rv.mapM (resVar tmps)).run P x.w = .ok us x.w ∧ RelVs x vs us
  | [], rs, K, hc, h => by
    simp only [convR, Option.some.injEq] at hc
    subst hc
    exact ⟨[], h, fun W x tmps nxt _ _ => ⟨[], by simp, by simp [RelVs]⟩⟩
  | .tmp t :: rv, rs, K, hc, h => by
    simp only [convR, Option.map_eq_some_iff] at hc
    obtain ⟨rs', hr, rfl⟩ := hc
    simp only [rget] at h
    obtain ⟨v, hv, hrel⟩ := gx_sound (o := .tmp t) rfl h
    obtain ⟨vs, hvs, hrun⟩ := rget_sound hr hv
    refine ⟨v :: vs, hvs, fun W x tmps nxt hh he => ?_⟩
    obtain ⟨us, h1, h2⟩ := hrun W x tmps nxt hh he
    have hr := hrel x { tmps := tmps, defers := [] } (he.known _)
    refine ⟨tmps.getD t undef :: us, ?_, ?_⟩
    · rw [List.mapM_cons]
      simp only [resVar, Sem.run_bind, Sem.run_pure, Result.andThen_ok, h1]
    · simp only [RelVs]
      exact ⟨hr, h2⟩
  | .cell n t :: rv, rs, K, hc, h => by
    simp only [convR] at hc
    split at hc
    · rename_i sz ag rs' h1 h2 h3
      simp only [Option.some.injEq] at hc
      subst hc
      simp only [rget] at h
      obtain ⟨v, tch, hv, hy⟩ := lop_load (P := P) (o := { dst := none, op := .load t (.tmp n), type := 0, pos := "", after := #[], guard := none }) (t := t) rfl (by rfl) h2 h1 h
      obtain ⟨vs, hvs, hrun⟩ := rget_sound h3 hv
      refine ⟨v :: vs, hvs, fun W x tmps nxt hh he => ?_⟩
      obtain ⟨us, g1, g2⟩ := hrun W x tmps nxt hh he
      obtain ⟨u, e1, e2⟩ := hy x { tmps := tmps, defers := [] } (he.known _) (fun id _ blk b e1 e2 => by
        cases blk with
        | dead => trivial
        | _ => exact (hh.at_ e1 rfl e2).2.2.2)
      refine ⟨u :: us, ?_, ?_⟩
      · have e1' : (do loadVar t (← asAddr (tmps.getD n undef)) : Sem Value).run P x.w = .ok u x.w := by
          simp only [execOp, Instr.loadAt, Act.eval, Sem.run_bind] at e1
          cases hv : tmps.getD n undef with
          | pointer a =>
            cases a with
            | none => simp [hv, Instr.sureAddr] at e1
            | some a =>
              simp only [hv, Instr.sureAddr, Sem.run_pure, Result.andThen_ok] at e1
              cases hl : (loadVar t a).run P x.w with
              | ok q w' =>
                rw [hl] at e1
                simp only [Result.andThen_ok] at e1
                injection e1 with e1 e3
                injection e1 with e1
                subst e1
                subst e3
                simp [asAddr, hl]
              | halt q w' => rw [hl] at e1; simp at e1
          | _ => simp [hv, Instr.sureAddr] at e1
        rw [List.mapM_cons]
        simp only [resVar, Sem.run_bind] at e1' ⊢
        rw [e1']
        simp only [Result.andThen_ok, g1, Sem.run_pure]
      · simp only [RelVs]
        exact ⟨e2, g2⟩
    · cases hc

/-- A call of a function that has a body: by its body. -/
theorem XCall.body {P : Program} {f : FuncId} {N : Nat} {mc : MC} {rs : List MR} {args : List AV} {H : List (Nat × Blk)} {nxt : Nat} {K : AV → List (Nat × Blk) → Nat → Prop} (hf : FnIs P f N mc rs) (hn : Nat.ble args.length N = true)
    (h : awp P mc { env := enumEnv 0 args, H := H, nxt := nxt } fun e σ => match e with
      | .exit _ => False
      | _ => rget σ.env σ.H rs fun vs => K (rres vs) σ.H σ.nxt) : XCall P f args H nxt K := by
  obtain ⟨hmix, fn, c, hfn, hb, hname, rfl, hc, hr⟩ := hf
  refine ⟨fun W x vals hh hrel => ?_⟩
  have hle := Nat.le_of_ble_eq_true hn
  have hlen : vals.size = args.length := by simpa using RelVs_length hrel
  left
  refine ⟨?_, ?_⟩
  · simp only [callFunc, Sem.run_bind, run_program, Result.andThen_ok, hfn, hname, Bool.false_eq_true, if_false, hb, Option.isNone_some, Sem.run_pure]
  · refine calls_of_wp hfn hb ?_
    have hs : SRel W x fn.ntmps { env := enumEnv 0 args, H := H, nxt := nxt } { tmps := vals ++ Array.replicate (fn.ntmps - vals.size) undef, defers := [] } x.w := by
      refine ⟨x, rfl, Step.refl W x, hh, fun t v ht => ?_, by simp; omega, rfl⟩
      obtain ⟨_, hv⟩ := enumEnv_lk _ _ _ _ ht
      simp only [Nat.sub_zero] at hv
      obtain ⟨u, hu, hru⟩ := RelVs_get hrel t v hv
      refine ⟨u, ?_, hru⟩
      have hlt : t < vals.size := by
        have := (List.getElem?_eq_some_iff.1 hu).1
        simpa using this
      rw [Array.getElem?_append_left hlt]
      simpa using hu
    refine wp_mono (awp_sound hmix (W := W) (x0 := x) hc h hs) ?_
    rintro e a w ⟨m, σ, rfl, hK, y, rfl, h1, h2, h3, h4, h5⟩
    have fin : (rget σ.env σ.H rs fun vs => K (rres vs) σ.H σ.nxt) → a.defers = [] ∧ ∃ v, (results fn a.tmps).run P y.w = .ok v y.w ∧
        ∃ v', Ending.returned v = .returned v' ∧ ∃ z r H' n', z.w = y.w ∧ K r H' n' ∧ Step W x z ∧ HOk W z H' n' ∧ RelV z r v' := by
      intro hK
      obtain ⟨vs, hvs, hrun⟩ := rget_sound hr hK
      obtain ⟨us, g1, g2⟩ := hrun W y a.tmps σ.nxt h2 h3
      have hul := RelVs_length g2
      refine ⟨h5, (if h : us.toArray.size = 1 then us.toArray[0] else .tuple us.toArray), ?_, _, rfl, y, _, _, _, rfl, hvs, h1, h2, ?_⟩
      · have hfe : (fun r : ResultVar => (match r with
            | .tmp t => pure (a.tmps.getD t undef)
            | .cell b t => do loadVar t (← asAddr (a.tmps.getD b undef)) : Sem Value)) = resVar a.tmps := by
          funext r
          cases r <;> rfl
        unfold results
        rw [Array.mapM_eq_mapM_toList]
        have g1' := g1
        rw [← hfe] at g1'
        simp only [Sem.run_bind, Sem.run_map]
        first
          | rw [g1']
          | erw [g1']
        simp only [Result.andThen_ok, Sem.run_pure]
      · cases vs with
        | nil =>
          have : us = [] := List.eq_nil_of_length_eq_zero (by simpa using hul)
          subst this
          simp only [rres, RelV]
          exact ⟨#[], rfl, by simp [RelVs]⟩
        | cons v vs =>
          cases vs with
          | nil =>
            cases us with
            | nil => simp at hul
            | cons u us =>
              have : us = [] := List.eq_nil_of_length_eq_zero (by simpa using hul)
              subst this
              simp only [RelVs] at g2
              simpa [rres] using g2.1
          | cons v2 vs =>
            have hne : ¬ us.toArray.size = 1 := by simp [hul]
            rw [dif_neg hne]
            simp only [rres, RelV]
            exact ⟨_, rfl, by simpa using g2⟩
    cases m with
    | normal => exact fin hK
    | ret => exact fin hK
    | exit id => exact hK.elim

end Go.Hb

namespace Go.Hb
open Go.RowKit
variable [Amb]

/-! ### What the call owns, seen as data -/

/-- Data that hang on no memory of ours. -/
def shut : List AV → Bool
  | [] => true
  | a :: r => match a with
    | .tt | .ff | .b _ | .i _ _ | .s _ | .raw _ | .fs _ _ _ | .nils => shut r
    | _ => false
mutual
/-- A value, all of it seen as data; with `kill` the blocks are given up. -/
def fz (kill : Bool) : AV → List (Nat × Blk) → (AV → List (Nat × Blk) → Prop) → Prop
  | .sl id size st n, H, K => match lk id H with
    | some (.rows n' size' cell) => (match Nat.beq size size' with
      | true => st + n ≤ n' ∧ K (.fs n size fun i j => cell (st + i) j) (match kill with | true => (id, .dead) :: H | false => H)
      | false => False)
    | _ => False
  | .sk id size st n _, H, K => match lk id H with
    | some (.rows n' size' cell) => (match Nat.beq size size' with
      | true => st + n ≤ n' ∧ K (.fs n size fun i j => cell (st + i) j) (match kill with | true => (id, .dead) :: H | false => H)
      | false => False)
    | _ => False
  | .sa id size off n, H, K => match lk id H with
    | some (.lit cs) => (match takeAt cs off (n * size) with
      | some l => (match cvs l with
        | some cl => K (.fs n size (listCell size cl)) (match kill with | true => (id, .dead) :: H | false => H)
        | none => False)
      | none => False)
    | _ => False
  | .p id k, H, K => match lk id H with
    | some (.lit cs) => (match cvs cs with
      | some cl => K (.fe cl.length (fun j => cl.getD j (.b false)) k) (match kill with | true => (id, .dead) :: H | false => H)
      | none => False)
    | _ => False
  | .agg xs, H, K => match shut xs with
    | true => K (.agg xs) H
    | false => fzs kill xs H fun ys H' => K (.agg ys) H'
  | .tup xs, H, K => fzs kill xs H fun ys H' => K (.tup ys) H'
  | .fn f a c, H, K => fzs kill a H fun a' H' => fzs kill c H' fun c' H'' => K (.fn f a' c') H''
  | a, H, K => K a H
def fzs (kill : Bool) : List AV → List (Nat × Blk) → (List AV → List (Nat × Blk) → Prop) → Prop
  | [], H, K => K [] H
  | a :: r, H, K => fz kill a H fun a' H' => fzs kill r H' fun r' H'' => K (a' :: r') H''
end

mutual
theorem fz_mono (kill : Bool) : ∀ (a : AV) (H : List (Nat × Blk)) (K1 K2 : AV → List (Nat × Blk) → Prop), (∀ a b, K1 a b → K2 a b) → fz kill a H K1 → fz kill a H K2
  | .sl id size st n, H, K1, K2, hk, h => by
    simp only [fz] at h ⊢
    repeat' (first | exact h.elim | exact ⟨h.1, hk _ _ h.2⟩ | split at h)
  | .sk id size st n c, H, K1, K2, hk, h => by
    simp only [fz] at h ⊢
    repeat' (first | exact h.elim | exact ⟨h.1, hk _ _ h.2⟩ | split at h)
  | .sa id size off n, H, K1, K2, hk, h => by
    simp only [fz] at h ⊢
    repeat' (first | exact h.elim | exact hk _ _ h | split at h)
  | .p id k, H, K1, K2, hk, h => by
    simp only [fz] at h ⊢
    repeat' (first | exact h.elim | exact hk _ _ h | split at h)
  | .agg xs, H, K1, K2, hk, h => by
    simp only [fz] at h ⊢
    cases hsh : shut xs with
    | true =>
      simp only [hsh] at h ⊢
      exact hk _ _ h
    | false =>
      simp only [hsh] at h ⊢
      exact fzs_mono kill xs H _ _ (fun a b => hk _ _) h
  | .tup xs, H, K1, K2, hk, h => by
    simp only [fz] at h ⊢
    exact fzs_mono kill xs H _ _ (fun a b => hk _ _) h
  | .fn f a c, H, K1, K2, hk, h => by
    simp only [fz] at h ⊢
    exact fzs_mono kill a H _ _ (fun a' H' => fzs_mono kill c H' _ _ fun _ _ => hk _ _) h
  | .tt, H, K1, K2, hk, h => hk _ _ h
  | .ff, H, K1, K2, hk, h => hk _ _ h
  | .b _, H, K1, K2, hk, h => hk _ _ h
  | .i _ _, H, K1, K2, hk, h => hk _ _ h
  | .s _, H, K1, K2, hk, h => hk _ _ h
  | .raw _, H, K1, K2, hk, h => hk _ _ h
  | .fs _ _ _, H, K1, K2, hk, h => hk _ _ h
  | .nils, H, K1, K2, hk, h => hk _ _ h
  | .fe _ _ _, H, K1, K2, hk, h => hk _ _ h
  | .pr _ _ _ _, H, K1, K2, hk, h => hk _ _ h
theorem fzs_mono (kill : Bool) : ∀ (as : List AV) (H : List (Nat × Blk)) (K1 K2 : List AV → List (Nat × Blk) → Prop), (∀ a b, K1 a b → K2 a b) → fzs kill as H K1 → fzs kill as H K2
  | [], H, K1, K2, hk, h => hk _ _ h
  | a :: as, H, K1, K2, hk, h => by
    simp only [fzs] at h ⊢
    exact fz_mono kill a H _ _ (fun a' H' => fzs_mono kill as H' _ _ fun _ _ => hk _ _) h
end

section
variable {W : Nat → Prop}

/-- More blocks that nobody writes. -/
def Cx.more (x : Cx) (I : Nat → Prop) : Cx := { w := x.w, I := I, loc := x.loc }
theorem Ext.more {x : Cx} {I : Nat → Prop} (h : ∀ k, x.I k → I k) : Ext x (x.more I) := ⟨fun _ _ e => e, h, fun _ _ => rfl, Nat.le_refl _, fun _ cs _ fr h => ⟨cs, fr, h, rfl⟩⟩

/-- What seeing as data leaves: with kill, blocks that are written no more; without, blocks that are ours. -/
structure Seen (W : Nat → Prop) (kill : Bool) (x y : Cx) (H H' : List (Nat × Blk)) (nxt : Nat) : Prop where
  w : y.w = x.w
  loc : y.loc = x.loc
  sub : ∀ k, x.I k → y.I k
  new : ∀ k, y.I k → x.I k ∨ (W k ∧ k < x.w.heap.size)
  ok : kill = true → HOk W y H' nxt
  same : kill = false → H' = H

theorem Seen.ext {kill : Bool} {x y : Cx} {H H' : List (Nat × Blk)} {nxt : Nat} (h : Seen W kill x y H H' nxt) : Ext x y :=
  ⟨fun id b e => by rw [h.loc]; exact e, h.sub, fun k _ => by rw [h.w], by rw [h.w]; exact Nat.le_refl _, fun k cs ty fr e => ⟨cs, fr, by rw [h.w]; exact e, rfl⟩⟩

/-- One block. -/
theorem seen_one {x : Cx} {H : List (Nat × Blk)} {nxt id : Nat} {k : Blk} (kill : Bool) {I0 : Nat → Prop} (h : HOk W x H nxt) (hk : lk id H = some k) (hl : k.live = true) :
    Seen W kill x (x.more fun b => x.I b ∨ x.loc id = some b) H (match kill with | true => (id, .dead) :: H | false => H) nxt := by
  refine ⟨rfl, rfl, fun _ h => .inl h, fun b hb => ?_, fun hkill => ?_, fun hkill => by subst hkill; rfl⟩
  · rcases hb with hb | hb
    · exact .inl hb
    · obtain ⟨h1, h2, h3, _⟩ := h.at_ hk hl hb
      exact .inr ⟨h1, h3⟩
  · subst hkill
    have hext : Ext x (x.more fun b => x.I b ∨ x.loc id = some b) := Ext.more fun _ h => .inl h
    refine ⟨fun i q hq => ?_, fun i q hq hl' => ?_, fun i i' q q' b h1 h2 l1 l2 e1 e2 => ?_, h.fresh, h.bound.ext hext fun b hb => ?_, h.room⟩
    · simp only [lk_cons] at hq
      by_cases hc : i = id
      · rw [hc]; exact h.keys id k hk
      · rw [if_neg hc] at hq; exact h.keys i q hq
    · simp only [lk_cons] at hq
      by_cases hc : i = id
      · rw [if_pos hc] at hq; cases hq; cases hl'
      · rw [if_neg hc] at hq
        rcases h.blk i q hq hl' with f | ⟨b, e1, e2, e3, e4, e5⟩
        · exact .inl f
        · refine .inr ⟨b, e1, e2, ?_, e4, e5.mono hext rfl⟩
          rintro (hb | hb)
          · exact e3 hb
          · exact hc (h.inj i id q k b hq hk hl' hl e1 hb)
    · simp only [lk_cons] at h1 h2
      by_cases c1 : i = id
      · rw [if_pos c1] at h1; cases h1; cases l1
      · by_cases c2 : i' = id
        · rw [if_pos c2] at h2; cases h2; cases l2
        · rw [if_neg c1] at h1
          rw [if_neg c2] at h2
          exact h.inj i i' q q' b h1 h2 l1 l2 e1 e2
    · rcases hb with hb | hb
      · exact h.bound b hb
      · exact (h.at_ hk hl hb).2.2.1

theorem Seen.refl {kill : Bool} {x : Cx} {H : List (Nat × Blk)} {nxt : Nat} (h : HOk W x H nxt) : Seen W kill x x H H nxt := ⟨rfl, rfl, fun _ h => h, fun _ h => .inl h, fun _ => h, fun _ => rfl⟩

theorem cell_add_blk {w : World} {b off : Nat} {arr : Array Value} {ty : TypeId} {fr : Nat × Nat} (h : w.heap[b]? = some (Obj.cells arr ty fr)) (k : Nat) : w.cell? ((⟨b, off, none⟩ : Addr).add k) = arr[off + k]? := by
  rw [add_plain, cell_of_blk h]

mutual
theorem fz_sound {kill : Bool} : ∀ (a : AV) (H : List (Nat × Blk)) (K : AV → List (Nat × Blk) → Prop), fz kill a H K →
    ∃ a' H', K a' H' ∧ ∀ (x : Cx) (v : Value) (nxt : Nat), HOk W x H nxt → RelV x a v → ∃ y, Seen W kill x y H H' nxt ∧ RelV y a' v
  | .sl id size st n, H, K, h => by
    simp only [fz] at h
    cases hl : lk id H with
    | none => simp [hl] at h
    | some blk =>
      cases blk with
      | rows n' size' cell =>
        simp only [hl] at h
        cases hs : Nat.beq size size' with
        | false => simp [hs] at h
        | true =>
          obtain rfl := Nat.eq_of_beq_eq_true hs
          simp only [hs] at h
          obtain ⟨hle, hK⟩ := h
          refine ⟨_, _, hK, fun x v nxt hh hr => ⟨_, seen_one kill (I0 := x.I) hh hl rfl, ?_⟩⟩
          simp only [RelV] at hr ⊢
          rcases hr with ⟨rfl, rfl⟩ | ⟨b, cap, off, hloc, rfl, hcap, hoff, cs, ty, fr, hheap, hsz⟩
          · exact ⟨none, 0, rfl, Nat.le_refl _, fun h => absurd rfl h⟩
          · refine ⟨_, cap, rfl, hcap, fun hn => ⟨_, rfl, .inr hloc, fun i j hi hj => ?_⟩⟩
            obtain ⟨_, _, _, arr, ty', fr', hheap', _, _, hrs⟩ := hh.at_ hl rfl hloc
            rw [hheap] at hheap'
            cases hheap'
            obtain ⟨u, hu, hru⟩ := hrs (st + i) j (by omega) hj
            refine ⟨u, ?_, RelC.mono (fun _ h => .inl h) (fun _ _ => rfl) _ _ hru⟩
            show x.w.cell? _ = _
            rw [cell_add_blk hheap, hoff (by omega), ← hu, Nat.add_mul]
            congr 1
            omega
      | _ => simp [hl] at h
  | .sk id size st n cap, H, K, h => by
    simp only [fz] at h
    cases hl : lk id H with
    | none => simp [hl] at h
    | some blk =>
      cases blk with
      | rows n' size' cell =>
        simp only [hl] at h
        cases hs : Nat.beq size size' with
        | false => simp [hs] at h
        | true =>
          obtain rfl := Nat.eq_of_beq_eq_true hs
          simp only [hs] at h
          obtain ⟨hle, hK⟩ := h
          refine ⟨_, _, hK, fun x v nxt hh hr => ⟨_, seen_one kill (I0 := x.I) hh hl rfl, ?_⟩⟩
          simp only [RelV] at hr ⊢
          obtain ⟨b, off, hloc, rfl, hcap, hoff, cs, ty, fr, hheap, hsz⟩ := hr
          · refine ⟨_, cap, rfl, hcap, fun hn => ⟨_, rfl, .inr hloc, fun i j hi hj => ?_⟩⟩
            obtain ⟨_, _, _, arr, ty', fr', hheap', _, _, hrs⟩ := hh.at_ hl rfl hloc
            rw [hheap] at hheap'
            cases hheap'
            obtain ⟨u, hu, hru⟩ := hrs (st + i) j (by omega) hj
            refine ⟨u, ?_, RelC.mono (fun _ h => .inl h) (fun _ _ => rfl) _ _ hru⟩
            show x.w.cell? _ = _
            rw [cell_add_blk hheap, hoff (by omega), ← hu, Nat.add_mul]
            congr 1
            omega
      | _ => simp [hl] at h
  | .sa id size off n, H, K, h => by
    simp only [fz] at h
    cases hl : lk id H with
    | none => simp [hl] at h
    | some blk =>
      cases blk with
      | lit cs =>
        simp only [hl] at h
        cases ht : takeAt cs off (n * size) with
        | none => simp [ht] at h
        | some l =>
          cases hc : cvs l with
          | none => simp [ht, hc] at h
          | some cl =>
            simp only [ht, hc] at h
            obtain ⟨htl, htg⟩ := takeAt_spec ht
            obtain ⟨hcl, hcg⟩ := cvs_spec hc
            refine ⟨_, _, h, fun x v nxt hh hr => ⟨_, seen_one kill (I0 := x.I) hh hl rfl, ?_⟩⟩
            simp only [RelV] at hr ⊢
            obtain ⟨b, cap, o', hloc, rfl, hcap, hoff, cs0, ty, fr, hheap, hsz⟩ := hr
            refine ⟨_, cap, rfl, hcap, fun hn => ⟨_, rfl, .inr hloc, fun i j hi hj => ?_⟩⟩
            obtain ⟨_, _, _, arr, ty', fr', hheap', _, hrs⟩ := hh.at_ hl rfl hloc
            rw [hheap] at hheap'
            cases hheap'
            have hlt : i * size + j < n * size := by
              have : (i + 1) * size ≤ n * size := Nat.mul_le_mul_right _ (by omega)
              rw [Nat.add_mul, Nat.one_mul] at this
              omega
            obtain ⟨c, hc1, hc2⟩ := hcg (i * size + j) (l[i * size + j]'(by omega)) (List.getElem?_eq_getElem _)
            obtain ⟨u, hu, hru⟩ := RelVs_get hrs _ _ (htg (i * size + j) (l[i * size + j]'(by omega)) (List.getElem?_eq_getElem _))
            refine ⟨u, ?_, ?_⟩
            · show x.w.cell? _ = _
              rw [cell_add_blk hheap, hoff (by omega)]
              simpa using hu
            · simp only [listCell, List.getD_eq_getElem?_getD, hc1]
              exact RelC.mono (w := x.w) (I := x.I) (fun _ h => Or.inl h) (fun _ _ => rfl) _ _ (AV.cv_rel hc2 hru)
      | _ => simp [hl] at h
  | .p id k, H, K, h => by
    simp only [fz] at h
    cases hl : lk id H with
    | none => simp [hl] at h
    | some blk =>
      cases blk with
      | lit cs =>
        simp only [hl] at h
        cases hc : cvs cs with
        | none => simp [hc] at h
        | some cl =>
          simp only [hc] at h
          obtain ⟨hcl, hcg⟩ := cvs_spec hc
          refine ⟨_, _, h, fun x v nxt hh hr => ⟨_, seen_one kill (I0 := x.I) hh hl rfl, ?_⟩⟩
          simp only [RelV] at hr ⊢
          obtain ⟨b, hloc, rfl⟩ := hr
          refine ⟨_, rfl, .inr hloc, fun q hq => ?_⟩
          obtain ⟨_, _, _, arr, ty', fr', hheap', _, hrs⟩ := hh.at_ hl rfl hloc
          obtain ⟨c, hc1, hc2⟩ := hcg (k + q) (cs[k + q]'(by omega)) (List.getElem?_eq_getElem _)
          obtain ⟨u, hu, hru⟩ := RelVs_get hrs _ _ (List.getElem?_eq_getElem (show k + q < cs.length by omega))
          refine ⟨u, ?_, ?_⟩
          · show x.w.cell? _ = _
            rw [cell_add_blk hheap']
            simpa using hu
          · simp only [List.getD_eq_getElem?_getD, hc1]
            exact RelC.mono (w := x.w) (I := x.I) (fun _ h => Or.inl h) (fun _ _ => rfl) _ _ (AV.cv_rel hc2 hru)
      | _ => simp [hl] at h
  | .agg xs, H, K, h => by
    simp only [fz] at h
    cases hsh : shut xs with
    | true =>
      simp only [hsh] at h
      exact ⟨_, _, h, fun x v nxt hh hr => ⟨x, Seen.refl hh, hr⟩⟩
    | false =>
    simp only [hsh] at h
    obtain ⟨ys, H', hK, hs⟩ := fzs_sound xs H _ h
    refine ⟨_, _, hK, fun x v nxt hh hr => ?_⟩
    simp only [RelV] at hr
    obtain ⟨vs, rfl, hr⟩ := hr
    obtain ⟨y, h1, h2⟩ := hs x _ nxt hh hr
    exact ⟨y, h1, by simp only [RelV]; exact ⟨vs, rfl, h2⟩⟩
  | .tup xs, H, K, h => by
    simp only [fz] at h
    obtain ⟨ys, H', hK, hs⟩ := fzs_sound xs H _ h
    refine ⟨_, _, hK, fun x v nxt hh hr => ?_⟩
    simp only [RelV] at hr
    obtain ⟨vs, rfl, hr⟩ := hr
    obtain ⟨y, h1, h2⟩ := hs x _ nxt hh hr
    exact ⟨y, h1, by simp only [RelV]; exact ⟨vs, rfl, h2⟩⟩
  | .fn f a c, H, K, h => by
    simp only [fz] at h
    obtain ⟨a', H', hK, hs⟩ := fzs_sound (kill := kill) a H _ h
    obtain ⟨c', H'', hK', hs'⟩ := fzs_sound (kill := kill) c H' _ hK
    refine ⟨_, _, hK', fun x v nxt hh hr => ?_⟩
    simp only [RelV] at hr
    obtain ⟨p, q, rfl, h1, h2⟩ := hr
    obtain ⟨y, g1, g2⟩ := hs x _ nxt hh h1
    cases kill with
    | true =>
      obtain ⟨z, g3, g4⟩ := hs' y _ nxt (g1.ok rfl) (RelVs.mono g1.ext _ _ h2)
      refine ⟨z, ⟨g3.w.trans g1.w, g3.loc.trans g1.loc, fun k hk => g3.sub k (g1.sub k hk), fun k hk => ?_, g3.ok, (fun h => by cases h)⟩, by simp only [RelV]; exact ⟨p, q, rfl, RelVs.mono g3.ext _ _ g2, g4⟩⟩
      rcases g3.new k hk with e | e
      · exact g1.new k e
      · rw [g1.w] at e; exact .inr e
    | false =>
      have hH := g1.same rfl
      subst hH
      obtain ⟨z, g3, g4⟩ := hs' x _ nxt hh h2
      refine ⟨x.more fun k => y.I k ∨ z.I k, ⟨rfl, rfl, fun k hk => .inl (g1.sub k hk), fun k hk => ?_, (fun h => by cases h), g3.same⟩, ?_⟩
      · rcases hk with e | e
        · exact g1.new k e
        · exact g3.new k e
      · simp only [RelV]
        refine ⟨p, q, rfl, RelVs.mono ⟨fun id b e => by rw [g1.loc] at e; exact e, fun k hk => Or.inl hk, fun k _ => by rw [g1.w]; rfl, by rw [g1.w]; exact Nat.le_refl _, fun k cs ty fr e => ⟨cs, fr, by rw [g1.w] at e; exact e, rfl⟩⟩ _ _ g2,
          RelVs.mono ⟨fun id b e => by rw [g3.loc] at e; exact e, fun k hk => Or.inr hk, fun k _ => by rw [g3.w]; rfl, by rw [g3.w]; exact Nat.le_refl _, fun k cs ty fr e => ⟨cs, fr, by rw [g3.w] at e; exact e, rfl⟩⟩ _ _ g4⟩
  | .tt, H, K, h => ⟨_, _, h, fun x v nxt hh hr => ⟨x, Seen.refl hh, hr⟩⟩
  | .ff, H, K, h => ⟨_, _, h, fun x v nxt hh hr => ⟨x, Seen.refl hh, hr⟩⟩
  | .b _, H, K, h => ⟨_, _, h, fun x v nxt hh hr => ⟨x, Seen.refl hh, hr⟩⟩
  | .i _ _, H, K, h => ⟨_, _, h, fun x v nxt hh hr => ⟨x, Seen.refl hh, hr⟩⟩
  | .s _, H, K, h => ⟨_, _, h, fun x v nxt hh hr => ⟨x, Seen.refl hh, hr⟩⟩
  | .raw _, H, K, h => ⟨_, _, h, fun x v nxt hh hr => ⟨x, Seen.refl hh, hr⟩⟩
  | .fs _ _ _, H, K, h => ⟨_, _, h, fun x v nxt hh hr => ⟨x, Seen.refl hh, hr⟩⟩
  | .nils, H, K, h => ⟨_, _, h, fun x v nxt hh hr => ⟨x, Seen.refl hh, hr⟩⟩
  | .fe _ _ _, H, K, h => ⟨_, _, h, fun x v nxt hh hr => ⟨x, Seen.refl hh, hr⟩⟩
  | .pr _ _ _ _, H, K, h => ⟨_, _, h, fun x v nxt hh hr => ⟨x, Seen.refl hh, hr⟩⟩
theorem fzs_sound {kill : Bool} : ∀ (as : List AV) (H : List (Nat × Blk)) (K : List AV → List (Nat × Blk) → Prop), fzs kill as H K →
    ∃ as' H', K as' H' ∧ ∀ (x : Cx) (vs : List Value) (nxt : Nat), HOk W x H nxt → RelVs x as vs → ∃ y, Seen W kill x y H H' nxt ∧ RelVs y as' vs
  | [], H, K, h => ⟨_, _, h, fun x vs nxt hh hr => ⟨x, Seen.refl hh, hr⟩⟩
  | a :: as, H, K, h => by
    simp only [fzs] at h
    obtain ⟨a', H', hK, hs⟩ := fz_sound (kill := kill) a H _ h
    obtain ⟨as', H'', hK', hs'⟩ := fzs_sound (kill := kill) as H' _ hK
    refine ⟨_, _, hK', fun x vs nxt hh hr => ?_⟩
    cases vs with
    | nil => simp [RelVs] at hr
    | cons v vs =>
      simp only [RelVs] at hr
      obtain ⟨y, g1, g2⟩ := hs x _ nxt hh hr.1
      cases kill with
      | true =>
        obtain ⟨z, g3, g4⟩ := hs' y _ nxt (g1.ok rfl) (RelVs.mono g1.ext _ _ hr.2)
        refine ⟨z, ⟨g3.w.trans g1.w, g3.loc.trans g1.loc, fun k hk => g3.sub k (g1.sub k hk), fun k hk => ?_, g3.ok, (fun h => by cases h)⟩, by simp only [RelVs]; exact ⟨RelV.mono g3.ext _ _ g2, g4⟩⟩
        rcases g3.new k hk with e | e
        · exact g1.new k e
        · rw [g1.w] at e; exact .inr e
      | false =>
        have hH := g1.same rfl
        subst hH
        obtain ⟨z, g3, g4⟩ := hs' x _ nxt hh hr.2
        refine ⟨x.more fun k => y.I k ∨ z.I k, ⟨rfl, rfl, fun k hk => .inl (g1.sub k hk), fun k hk => ?_, (fun h => by cases h), g3.same⟩, ?_⟩
        · rcases hk with e | e
          · exact g1.new k e
          · exact g3.new k e
        · simp only [RelVs]
          refine ⟨RelV.mono ⟨fun id b e => by rw [g1.loc] at e; exact e, fun k hk => Or.inl hk, fun k _ => by rw [g1.w]; rfl, by rw [g1.w]; exact Nat.le_refl _, fun k cs ty fr e => ⟨cs, fr, by rw [g1.w] at e; exact e, rfl⟩⟩ _ _ g2,
            RelVs.mono ⟨fun id b e => by rw [g3.loc] at e; exact e, fun k hk => Or.inr hk, fun k _ => by rw [g3.w]; rfl, by rw [g3.w]; exact Nat.le_refl _, fun k cs ty fr e => ⟨cs, fr, by rw [g3.w] at e; exact e, rfl⟩⟩ _ _ g4⟩
end
end

/-! ### A function from data to data -/

def noLoc : Nat → Option Nat := fun _ => none

/-- Called with such data, the function answers such data; all that was there is as it was. -/
structure Pure (P : Program) (f : FuncId) (args : List AV) (Post : AV → Prop) : Prop where
  go : ∀ (w : World) (I : Nat → Prop) (vals : Array Value), Bnd w I → RelVs ⟨w, I, noLoc⟩ args vals.toList →
    ((callFunc f vals).run P w = .ok (.enter f vals) w ∧ Calls P f vals w fun e w' => ∃ v, e = .returned v ∧ ∃ I' r, Post r ∧ Step (fun k => w.heap.size ≤ k) ⟨w, I, noLoc⟩ ⟨w', I', noLoc⟩ ∧ Bnd w' I' ∧ RelV ⟨w', I', noLoc⟩ r v) ∨
    ∃ v w' I' r, (callFunc f vals).run P w = .ok (.value v) w' ∧ Post r ∧ Step (fun k => w.heap.size ≤ k) ⟨w, I, noLoc⟩ ⟨w', I', noLoc⟩ ∧ Bnd w' I' ∧ RelV ⟨w', I', noLoc⟩ r v

theorem Pure.mono {P : Program} {f : FuncId} {args : List AV} {Q R : AV → Prop} (h : Pure P f args Q) (hq : ∀ r, Q r → R r) : Pure P f args R := by
  refine ⟨fun w I vals hb hr => ?_⟩
  rcases h.go w I vals hb hr with ⟨h1, h2⟩ | ⟨v, w', I', r, h1, h2, h3⟩
  · exact .inl ⟨h1, h2.mono fun e w' ⟨v, he, I', r, hQ, hs⟩ => ⟨v, he, I', r, hq r hQ, hs⟩⟩
  · exact .inr ⟨v, w', I', r, h1, hq r h2, h3⟩

theorem HOk.nil {x : Cx} (hb : Bnd x.w x.I) (hl : ∀ id, x.loc id = none) : HOk (fun k => x.w.heap.size ≤ k) x [] 0 :=
  ⟨fun id k h => by simp [lk] at h, fun id k h => by simp [lk] at h, fun id id' k k' b h => by simp [lk] at h, fun id _ => hl id, hb, fun _ h => h⟩

/-- By its body: what the call made is given up. -/
theorem Pure.of {P : Program} {f : FuncId} {args : List AV} {Post : AV → Prop} (h : XCall P f args [] 0 fun r H _ => fz true r H fun r' _ => idb 0 r' = true ∧ Post r') : Pure P f args Post := by
  refine ⟨fun w I vals hb hr => ?_⟩
  have hh : HOk (fun k => w.heap.size ≤ k) ⟨w, I, noLoc⟩ [] 0 := HOk.nil (x := ⟨w, I, noLoc⟩) hb fun _ => rfl
  have fin : ∀ (y : Cx) (r : AV) (H' : List (Nat × Blk)) (n' : Nat) (v : Value), (fz true r H' fun r' _ => idb 0 r' = true ∧ Post r') → Step (fun k => w.heap.size ≤ k) ⟨w, I, noLoc⟩ y → HOk (fun k => w.heap.size ≤ k) y H' n' → RelV y r v →
      ∃ I' r', Post r' ∧ Step (fun k => w.heap.size ≤ k) ⟨w, I, noLoc⟩ ⟨y.w, I', noLoc⟩ ∧ Bnd y.w I' ∧ RelV ⟨y.w, I', noLoc⟩ r' v := by
    intro y r H' n' v hK hs hok hrel
    obtain ⟨r', H'', ⟨hid, hP⟩, hz⟩ := fz_sound (W := fun k => w.heap.size ≤ k) r H' _ hK
    obtain ⟨z, g1, g2⟩ := hz y v n' hok hrel
    refine ⟨z.I, r', hP, ⟨⟨(fun id b e => by cases e), fun k hk => g1.sub k (hs.ext.sub k hk), hs.ext.kept, hs.ext.size, hs.ext.rows⟩, hs.os, hs.tape, hs.output, hs.frame, fun k hk => ?_⟩, ?_, ?_⟩
    · rcases g1.new k hk with e | e
      · exact hs.new k e
      · exact .inr e.1
    · have := (g1.ok rfl).bound
      rw [g1.w] at this
      exact this
    · have := RelV.cut (n := 0) (loc := noLoc) (fun id b h => absurd h (Nat.not_lt_zero _)) r' v hid g2
      rw [g1.w] at this
      exact this
  rcases h.go (fun k => w.heap.size ≤ k) ⟨w, I, noLoc⟩ vals hh hr with ⟨h1, h2⟩ | ⟨v, y, r, H', n', h1, h2, h3, h4, h5⟩
  · refine .inl ⟨h1, h2.mono fun e w' ⟨v, he, y, r, H', n', hw, hK, hs, hok, hrel⟩ => ⟨v, he, ?_⟩⟩
    subst hw
    exact fin y r H' n' v hK hs hok hrel
  · obtain ⟨I', r', k1, k2, k3, k4⟩ := fin y r H' n' v h2 h3 h4 h5
    exact .inr ⟨v, y.w, I', r', h1, k1, k2, k3, k4⟩

mutual
/-- A result that lies in no memory. -/
def flat : AV → Bool
  | .tt | .ff | .b _ | .i _ _ | .s _ | .raw _ | .nils => true
  | .agg xs => flats xs
  | .tup xs => flats xs
  | _ => false
def flats : List AV → Bool
  | [] => true
  | a :: r => match flat a with
    | true => flats r
    | false => false
end
mutual
theorem flat_rel {x y : Cx} : ∀ (a : AV) (v : Value), flat a = true → RelV x a v → RelV y a v
  | .tt, v, _, h => by simpa only [RelV] using h
  | .ff, v, _, h => by simpa only [RelV] using h
  | .b _, v, _, h => by simpa only [RelV] using h
  | .i _ _, v, _, h => by simpa only [RelV] using h
  | .s _, v, _, h => by simpa only [RelV] using h
  | .raw _, v, _, h => by simpa only [RelV] using h
  | .nils, v, _, h => by simpa only [RelV] using h
  | .agg xs, v, hf, h => by
    simp only [RelV] at h ⊢
    obtain ⟨vs, e, r⟩ := h
    exact ⟨vs, e, flats_rel xs _ (by simpa [flat] using hf) r⟩
  | .tup xs, v, hf, h => by
    simp only [RelV] at h ⊢
    obtain ⟨vs, e, r⟩ := h
    exact ⟨vs, e, flats_rel xs _ (by simpa [flat] using hf) r⟩
  | .fs _ _ _, _, hf, _ => by simp [flat] at hf
  | .fe _ _ _, _, hf, _ => by simp [flat] at hf
  | .p _ _, _, hf, _ => by simp [flat] at hf
  | .pr _ _ _ _, _, hf, _ => by simp [flat] at hf
  | .sl _ _ _ _, _, hf, _ => by simp [flat] at hf
  | .sa _ _ _ _, _, hf, _ => by simp [flat] at hf
  | .fn _ _ _, _, hf, _ => by simp [flat] at hf
theorem flats_rel {x y : Cx} : ∀ (as : List AV) (vs : List Value), flats as = true → RelVs x as vs → RelVs y as vs
  | [], [], _, _ => by simp only [RelVs]
  | [], _ :: _, _, h => by simp [RelVs] at h
  | _ :: _, [], _, h => by simp [RelVs] at h
  | a :: as, v :: vs, hf, h => by
    simp only [RelVs] at h ⊢
    simp only [flats] at hf
    split at hf
    · rename_i h1
      exact ⟨flat_rel a v h1 h.1, flats_rel as vs hf h.2⟩
    · cases hf
end

/-- The heart of a call by what the function does to data. -/
theorem pure_step {P : Program} {f : FuncId} {args : List AV} {Post : AV → Prop} {W : Nat → Prop} {x y : Cx} {vals : Array Value} {G : AV → Cx → Value → Prop} (hp : Pure P f args Post) (hroom : ∀ b, x.w.heap.size ≤ b → W b)
    (hw : y.w = x.w) (hb : Bnd y.w y.I) (hid : idbs 0 args = true) (hr : RelVs y args vals.toList)
    (fin : ∀ (z : Cx) (r : AV) (v : Value), z.loc = x.loc → Post r → Step (fun k => x.w.heap.size ≤ k) ⟨x.w, y.I, x.loc⟩ z → Bnd z.w z.I → RelV z r v → ∃ z', z'.w = z.w ∧ G r z' v) :
    ((callFunc f vals).run P x.w = .ok (.enter f vals) x.w ∧ Calls P f vals x.w fun e w' => ∃ v, e = .returned v ∧ ∃ z r, z.w = w' ∧ Post r ∧ G r z v) ∨ ∃ v z r, (callFunc f vals).run P x.w = .ok (.value v) z.w ∧ Post r ∧ G r z v := by
  have hr' : RelVs ⟨x.w, y.I, noLoc⟩ args vals.toList := by
    have := RelVs.cut (n := 0) (loc := noLoc) (fun id b h => absurd h (Nat.not_lt_zero _)) args vals.toList hid hr
    rw [hw] at this
    exact this
  have core : ∀ (w' : World) (I' : Nat → Prop) (r : AV) (v : Value), Post r → Step (fun k => x.w.heap.size ≤ k) ⟨x.w, y.I, noLoc⟩ ⟨w', I', noLoc⟩ → Bnd w' I' → RelV ⟨w', I', noLoc⟩ r v → ∃ z, z.w = w' ∧ G r z v := by
    intro w' I' r v hP hs hbn hrel
    obtain ⟨z', e, g⟩ := fin ⟨w', I', x.loc⟩ r v rfl hP ⟨⟨fun _ _ e => e, hs.ext.sub, hs.ext.kept, hs.ext.size, hs.ext.rows⟩, hs.os, hs.tape, hs.output, hs.frame, hs.new⟩ hbn
      (RelV.mono (x := ⟨w', I', noLoc⟩) (y := ⟨w', I', x.loc⟩) ⟨(fun _ _ e => by cases e), fun _ h => h, fun _ _ => rfl, Nat.le_refl _, fun _ cs _ fr h => ⟨cs, fr, h, rfl⟩⟩ _ _ hrel)
    exact ⟨z', e, g⟩
  rcases hp.go x.w y.I vals (by rw [hw] at hb; exact hb) hr' with ⟨h1, h2⟩ | ⟨v, w', I', r, h1, h2, h3, h4, h5⟩
  · refine .inl ⟨h1, h2.mono fun e w' ⟨v, he, I', r, hP, hs, hbn, hrel⟩ => ⟨v, he, ?_⟩⟩
    obtain ⟨z, e, g⟩ := core w' I' r v hP hs hbn hrel
    exact ⟨z, r, e, hP, g⟩
  · obtain ⟨z, e, g⟩ := core w' I' r v h2 h3 h4 h5
    exact .inr ⟨v, z, r, by rw [e]; exact h1, h2, g⟩

theorem Step.of_below {W : Nat → Prop} {x y : Cx} (hs : Step (fun k => x.w.heap.size ≤ k) x y) (hroom : ∀ b, x.w.heap.size ≤ b → W b) : Step W x y :=
  ⟨hs.ext, hs.os, hs.tape, hs.output, fun k hk => hs.frame k fun h => hk (hroom k h), fun k hk => (hs.new k hk).imp id (hroom k)⟩

theorem HOk.later {W : Nat → Prop} {x z : Cx} {H : List (Nat × Blk)} {nxt : Nat} (h : HOk W x H nxt) (hloc : z.loc = x.loc) (hs : Step (fun k => x.w.heap.size ≤ k) x z) (hb : Bnd z.w z.I) : HOk W z H nxt := by
  refine ⟨h.keys, fun id k hk hl => ?_, fun id id' k k' b h1 h2 l1 l2 e1 e2 => h.inj id id' k k' b h1 h2 l1 l2 (by rw [← hloc]; exact e1) (by rw [← hloc]; exact e2), fun id hid => by rw [hloc]; exact h.fresh id hid, hb, fun b hb' => h.room b (by have := hs.ext.size; omega)⟩
  rcases h.blk id k hk hl with ⟨f1, f2⟩ | ⟨b, e1, e2, e3, e4, e5⟩
  · exact .inl ⟨f1, by rw [hloc]; exact f2⟩
  · refine .inr ⟨b, by rw [hloc]; exact e1, e2, fun hi => ?_, by have := hs.ext.size; omega, e5.mono hs.ext (hs.frame b (by omega))⟩
    rcases hs.new b hi with h' | h'
    · exact e3 h'
    · omega

/-- A call of a function from data to data: what is handed over is given up. -/
theorem XCall.giv {P : Program} {f : FuncId} {args : List AV} {H : List (Nat × Blk)} {nxt : Nat} {K : AV → List (Nat × Blk) → Nat → Prop}
    (h : fzs true args H fun as H' => ∃ Post, Pure P f as Post ∧ idbs 0 as = true ∧ ∀ r, Post r → K r H' nxt) : XCall P f args H nxt K := by
  refine ⟨fun W x vals hh hr => ?_⟩
  obtain ⟨as2, H2, ⟨Post2, hp2, hid2, hK2⟩, hs⟩ := fzs_sound (W := W) args H _ h
  obtain ⟨y, g1, g2⟩ := hs x _ nxt hh hr
  have hok := g1.ok rfl
  have res := pure_step (W := W) (G := fun r z v => Step W x z ∧ HOk W z H2 nxt ∧ RelV z r v) hp2 hh.room g1.w hok.bound hid2 g2 (by
    intro z r v hloc hP hst hb hrel
    have hy : (⟨x.w, y.I, x.loc⟩ : Cx) = y := by rw [← g1.w, ← g1.loc]
    rw [hy] at hst
    have hst' : Step (fun k => y.w.heap.size ≤ k) y z := by rw [g1.w]; exact hst
    have s1 : Step W x y := ⟨g1.ext, by rw [g1.w], by rw [g1.w], by rw [g1.w], fun k _ => by rw [g1.w], fun k hk => (g1.new k hk).imp id fun e => e.1⟩
    exact ⟨z, rfl, s1.trans (Step.of_below hst' hok.room), hok.later (by rw [hloc, g1.loc]) hst' hb, hrel⟩)
  rcases res with ⟨h1, h2⟩ | ⟨v, z, r, h1, hP, h2, h3, h4⟩
  · refine .inl ⟨h1, h2.mono fun e w' ⟨v, he, z, r, hw, hP, k1, k2, k3⟩ => ⟨v, he, z, r, H2, nxt, hw, hK2 r hP, k1, k2, k3⟩⟩
  · exact .inr ⟨v, z, r, H2, nxt, h1, hK2 r hP, h2, h3, h4⟩

/-- A call of a function from data to data, whose answer lies in no memory: what is handed over stays the call's own. -/
theorem XCall.len {P : Program} {f : FuncId} {args : List AV} {H : List (Nat × Blk)} {nxt : Nat} {K : AV → List (Nat × Blk) → Nat → Prop}
    (h : fzs false args H fun as _ => ∃ Post, Pure P f as Post ∧ idbs 0 as = true ∧ ∀ r, Post r → flat r = true ∧ K r H nxt) : XCall P f args H nxt K := by
  refine ⟨fun W x vals hh hr => ?_⟩
  obtain ⟨as, H', ⟨Post, hp, hid, hK⟩, hs⟩ := fzs_sound (W := W) args H _ h
  obtain ⟨y, g1, g2⟩ := hs x _ nxt hh hr
  have hyb : Bnd y.w y.I := hh.bound.ext g1.ext fun k hk => by
    rw [g1.w]
    rcases g1.new k hk with e | e
    · exact hh.bound k e
    · exact e.2
  have res := pure_step (W := W) (G := fun r z v => Step W x z ∧ HOk W z H nxt ∧ RelV z r v) hp hh.room g1.w hyb hid g2 (by
    intro z r v hloc hP hst hb hrel
    obtain ⟨hfl, _⟩ := hK r hP
    have hst' : Step (fun k => x.w.heap.size ≤ k) x ⟨z.w, x.I, x.loc⟩ :=
      ⟨⟨fun _ _ e => e, fun _ h => h, fun k hk => hst.ext.kept k (g1.sub k hk), hst.ext.size, hst.ext.rows⟩, hst.os, hst.tape, hst.output, hst.frame, fun k hk => .inl hk⟩
    exact ⟨⟨z.w, x.I, x.loc⟩, rfl, Step.of_below hst' hh.room, hh.later rfl hst' (hh.bound.ext hst'.ext fun k hk => Nat.lt_of_lt_of_le (hh.bound k hk) hst'.ext.size), flat_rel r v hfl hrel⟩)
  rcases res with ⟨h1, h2⟩ | ⟨v, z, r, h1, hP, h2, h3, h4⟩
  · refine .inl ⟨h1, h2.mono fun e w' ⟨v, he, z, r, hw, hP, k1, k2, k3⟩ => ⟨v, he, z, r, H, nxt, hw, (hK r hP).2, k1, k2, k3⟩⟩
  · exact .inr ⟨v, z, r, H, nxt, h1, (hK r hP).2, h2, h3, h4⟩

end Go.Hb

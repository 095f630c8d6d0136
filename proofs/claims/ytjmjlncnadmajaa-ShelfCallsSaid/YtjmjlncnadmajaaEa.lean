/-
  Parts of the proof: no statement of the seat is proved here.
-/
import Derived.Calls
import Derived.Laws.World
import Derived.Laws.Sem
import Derived.Below
import Derived.Laws.Entries
import Derived.Laws.Bits
import Derived.Laws.Cells
set_option linter.unusedSimpArgs false
set_option linter.unusedVariables false

namespace Go.Hb
open Go.RowKit

/-- Data at rest: one cell's worth; slices bear what they read. -/
inductive CV where
  | b (x : Bool)
  | i (k : IntKind) (n : Int)
  | s (x : ByteArray)
  | raw (v : Value)
  | fs (n size : Nat) (cell : Nat → Nat → CV)

inductive AV where
  | tt | ff
  | b (x : Bool)
  | i (k : IntKind) (n : Int)
  | s (x : ByteArray)
  | raw (v : Value)
  | fs (n size : Nat) (cell : Nat → Nat → CV)
  | nils
  | fe (size : Nat) (cell : Nat → CV) (j : Nat)
  | p (id k : Nat)
  | pr (id size i j : Nat)
  | sl (id size start len : Nat)
  | sa (id size off len : Nat)
  | sk (id size start len cap : Nat)
  | agg (xs : List AV)
  | tup (xs : List AV)
  | fn (f : Fn) (first caps : List AV)

inductive Blk where
  | lit (cs : List AV)
  | rows (n size : Nat) (cell : Nat → Nat → CV)
  | dead

def CV.up : CV → AV
  | .b x => .b x
  | .i k n => .i k n
  | .s x => .s x
  | .raw v => .raw v
  | .fs n size cell => .fs n size cell

def AV.cells : AV → List AV
  | .agg xs => xs
  | a => [a]

/-- Where we stand: the world; the blocks that nobody writes any more; which block an id is. -/
structure Cx where
  w : World
  I : Nat → Prop
  loc : Nat → Option Nat

def RelC (w : World) (I : Nat → Prop) : CV → Value → Prop
  | .b x, v => v = .bool x
  | .i k n, v => v = .int k n
  | .s x, v => v = .string x
  | .raw u, v => v = u ∧ u.oneCell' = true
  | .fs n size cell, v => ∃ A cap, v = .slice A n cap ∧ n ≤ cap ∧
      (n ≠ 0 → ∃ ad, A = some ad ∧ I ad.block ∧ ∀ i j, i < n → j < size → ∃ u, w.cell? (ad.add (i * size + j)) = some u ∧ RelC w I (cell i j) u)

mutual
def RelV (x : Cx) : AV → Value → Prop
  | .tt, v => v = .bool true
  | .ff, v => v = .bool false
  | .b y, v => v = .bool y
  | .i k n, v => v = .int k n
  | .s y, v => v = .string y
  | .raw u, v => v = u ∧ u.oneCell' = true
  | .fs n size cell, v => RelC x.w x.I (.fs n size cell) v
  | .nils, v => v = .slice none 0 0
  | .fe size cell j, v => ∃ ad, v = .pointer (some ad) ∧ x.I ad.block ∧ ∀ k, j + k < size → ∃ u, x.w.cell? (ad.add k) = some u ∧ RelC x.w x.I (cell (j + k)) u
  | .p id k, v => ∃ b, x.loc id = some b ∧ v = .pointer (some ⟨b, k, none⟩)
  | .pr id size i j, v => ∃ b, x.loc id = some b ∧ v = .pointer (some ⟨b, i * size + j, none⟩)
  | .sl id size start len, v => (len = 0 ∧ v = .slice none 0 0) ∨ ∃ b cap o, x.loc id = some b ∧ v = .slice (some ⟨b, o, none⟩) len cap ∧ len ≤ cap ∧ (cap ≠ 0 → o = start * size) ∧
      ∃ cs ty fr, x.w.heap[b]? = some (.cells cs ty fr) ∧ (start + cap) * size ≤ cs.size
  | .sa id size off len, v => ∃ b cap o, x.loc id = some b ∧ v = .slice (some ⟨b, o, none⟩) len cap ∧ len ≤ cap ∧ (cap ≠ 0 → o = off) ∧
      ∃ cs ty fr, x.w.heap[b]? = some (.cells cs ty fr) ∧ off + cap * size ≤ cs.size
  | .sk id size start len cap, v => ∃ b o, x.loc id = some b ∧ v = .slice (some ⟨b, o, none⟩) len cap ∧ len ≤ cap ∧ (cap ≠ 0 → o = start * size) ∧
      ∃ cs ty fr, x.w.heap[b]? = some (.cells cs ty fr) ∧ (start + cap) * size ≤ cs.size
  | .agg xs, v => ∃ vs, v = .agg vs ∧ RelVs x xs vs.toList
  | .tup xs, v => ∃ vs, v = .tuple vs ∧ RelVs x xs vs.toList
  | .fn f first caps, v => ∃ a c, v = .func f a c ∧ RelVs x first a.toList ∧ RelVs x caps c.toList
def RelVs (x : Cx) : List AV → List Value → Prop
  | [], [] => True
  | a :: as, v :: vs => RelV x a v ∧ RelVs x as vs
  | _, _ => False
end

theorem RelVs_nil {x : Cx} : RelVs x [] [] := by simp [RelVs]
theorem RelVs_cons {x : Cx} {a : AV} {as : List AV} {v : Value} {vs : List Value} : RelVs x (a :: as) (v :: vs) ↔ RelV x a v ∧ RelVs x as vs := by simp [RelVs]
theorem RelVs_length {x : Cx} : ∀ {as : List AV} {vs : List Value}, RelVs x as vs → vs.length = as.length
  | [], [], _ => rfl
  | [], _ :: _, h => by simp [RelVs] at h
  | _ :: _, [], h => by simp [RelVs] at h
  | a :: as, v :: vs, h => by
    simp only [RelVs] at h
    simp [RelVs_length h.2]
theorem RelVs_get {x : Cx} : ∀ {as : List AV} {vs : List Value}, RelVs x as vs → ∀ (i : Nat) (a : AV), as[i]? = some a → ∃ v, vs[i]? = some v ∧ RelV x a v
  | [], _, _, i, a, hi => by simp at hi
  | _ :: _, [], h, _, _, _ => by simp [RelVs] at h
  | a :: as, v :: vs, h, 0, b, hb => by
    simp only [RelVs] at h
    simp at hb
    subst hb
    exact ⟨v, rfl, h.1⟩
  | a :: as, v :: vs, h, i + 1, b, hb => by
    simp only [RelVs] at h
    simp at hb
    simpa using RelVs_get h.2 i b hb
theorem RelVs_append {x : Cx} : ∀ {as bs : List AV} {vs us : List Value}, RelVs x as vs → RelVs x bs us → RelVs x (as ++ bs) (vs ++ us)
  | [], _, [], _, _, k => by simpa using k
  | [], _, _ :: _, _, h, _ => by simp [RelVs] at h
  | _ :: _, _, [], _, h, _ => by simp [RelVs] at h
  | a :: as, _, v :: vs, _, h, k => by
    simp only [RelVs] at h
    simp only [List.cons_append, RelVs]
    exact ⟨h.1, RelVs_append h.2 k⟩

/-- From one place to a later one. -/
structure Ext (x y : Cx) : Prop where
  loc : ∀ id b, x.loc id = some b → y.loc id = some b
  sub : ∀ k, x.I k → y.I k
  kept : ∀ k, x.I k → y.w.heap[k]? = x.w.heap[k]?
  size : x.w.heap.size ≤ y.w.heap.size
  rows : ∀ (k : Nat) (cs : Array Value) (ty : TypeId) (fr : Nat × Nat), x.w.heap[k]? = some (Obj.cells cs ty fr) → ∃ (cs' : Array Value) (fr' : Nat × Nat), y.w.heap[k]? = some (Obj.cells cs' ty fr') ∧ cs'.size = cs.size

theorem Ext.refl (x : Cx) : Ext x x := ⟨fun _ _ h => h, fun _ h => h, fun _ _ => rfl, Nat.le_refl _, fun _ cs _ fr h => ⟨cs, fr, h, rfl⟩⟩
theorem Ext.trans {x y z : Cx} (h : Ext x y) (k : Ext y z) : Ext x z :=
  ⟨fun id b e => k.loc id b (h.loc id b e), fun i hi => k.sub i (h.sub i hi), fun i hi => (k.kept i (h.sub i hi)).trans (h.kept i hi), Nat.le_trans h.size k.size,
   fun i cs ty fr e => by
    obtain ⟨cs', fr', e', s'⟩ := h.rows i cs ty fr e
    obtain ⟨cs'', fr'', e'', s''⟩ := k.rows i cs' ty fr' e'
    exact ⟨cs'', fr'', e'', s''.trans s'⟩⟩

theorem block_of_add (a : Addr) (n : Nat) : (a.add n).block = a.block := by unfold Addr.add; split <;> rfl
theorem add_of_add (a : Addr) (i j : Nat) : (a.add i).add j = a.add (i + j) := by
  unfold Addr.add
  by_cases hi : i = 0 <;> by_cases hj : j = 0 <;> simp [hi, hj, Nat.add_assoc]
theorem add_plain (g o j : Nat) : (⟨g, o, none⟩ : Addr).add j = ⟨g, o + j, none⟩ := by unfold Addr.add; split <;> simp_all

theorem RelC.mono {w w' : World} {I I' : Nat → Prop} (hs : ∀ k, I k → I' k) (hk : ∀ k, I k → w'.heap[k]? = w.heap[k]?) : ∀ (c : CV) (v : Value), RelC w I c v → RelC w' I' c v
  | .b x, v, h => h
  | .i k n, v, h => h
  | .s x, v, h => h
  | .raw u, v, h => h
  | .fs n size cell, v, h => by
    obtain ⟨A, cap, e, hc, hr⟩ := h
    refine ⟨A, cap, e, hc, fun hn => ?_⟩
    obtain ⟨ad, ha, hi, hcell⟩ := hr hn
    refine ⟨ad, ha, hs _ hi, fun i j h1 h2 => ?_⟩
    obtain ⟨u, hu, hrel⟩ := hcell i j h1 h2
    refine ⟨u, ?_, RelC.mono hs hk _ _ hrel⟩
    rw [← hu]
    exact World.cell?_of_block (by rw [block_of_add]; exact hk _ hi)

mutual
theorem RelV.mono {x y : Cx} (h : Ext x y) : ∀ (a : AV) (v : Value), RelV x a v → RelV y a v
  | .tt, v, k => by simpa only [RelV] using k
  | .ff, v, k => by simpa only [RelV] using k
  | .b _, v, k => by simpa only [RelV] using k
  | .i _ _, v, k => by simpa only [RelV] using k
  | .s _, v, k => by simpa only [RelV] using k
  | .raw _, v, k => by simpa only [RelV] using k
  | .fs n size cell, v, k => by
    simp only [RelV] at k ⊢
    exact RelC.mono h.sub h.kept _ _ k
  | .nils, v, k => by simpa only [RelV] using k
  | .fe size cell j, v, k => by
    simp only [RelV] at k ⊢
    obtain ⟨ad, e, hi, hc⟩ := k
    refine ⟨ad, e, h.sub _ hi, fun i hj => ?_⟩
    obtain ⟨u, hu, hr⟩ := hc i hj
    exact ⟨u, (World.cell?_of_block (by rw [block_of_add]; exact h.kept _ hi)).trans hu, RelC.mono h.sub h.kept _ _ hr⟩
  | .p id o, v, k => by
    simp only [RelV] at k ⊢
    obtain ⟨b, hl, e⟩ := k
    exact ⟨b, h.loc _ _ hl, e⟩
  | .pr id size i j, v, k => by
    simp only [RelV] at k ⊢
    obtain ⟨b, hl, e⟩ := k
    exact ⟨b, h.loc _ _ hl, e⟩
  | .sl id size start len, v, k => by
    simp only [RelV] at k ⊢
    rcases k with k | ⟨b, cap, o, hl, e, hc, ho, cs, ty, fr, hh, hz⟩
    · exact .inl k
    obtain ⟨cs', fr', hh', hz'⟩ := h.rows b cs ty fr hh
    exact .inr ⟨b, cap, o, h.loc _ _ hl, e, hc, ho, cs', ty, fr', hh', by rw [hz']; exact hz⟩
  | .sa id size start len, v, k => by
    simp only [RelV] at k ⊢
    obtain ⟨b, cap, o, hl, e, hc, ho, cs, ty, fr, hh, hz⟩ := k
    obtain ⟨cs', fr', hh', hz'⟩ := h.rows b cs ty fr hh
    exact ⟨b, cap, o, h.loc _ _ hl, e, hc, ho, cs', ty, fr', hh', by rw [hz']; exact hz⟩
  | .sk id size start len cap, v, k => by
    simp only [RelV] at k ⊢
    obtain ⟨b, o, hl, e, hc, ho, cs, ty, fr, hh, hz⟩ := k
    obtain ⟨cs', fr', hh', hz'⟩ := h.rows b cs ty fr hh
    exact ⟨b, o, h.loc _ _ hl, e, hc, ho, cs', ty, fr', hh', by rw [hz']; exact hz⟩
  | .agg xs, v, k => by
    simp only [RelV] at k ⊢
    obtain ⟨vs, e, hr⟩ := k
    exact ⟨vs, e, RelVs.mono h xs vs.toList hr⟩
  | .tup xs, v, k => by
    simp only [RelV] at k ⊢
    obtain ⟨vs, e, hr⟩ := k
    exact ⟨vs, e, RelVs.mono h xs vs.toList hr⟩
  | .fn f first caps, v, k => by
    simp only [RelV] at k ⊢
    obtain ⟨a, c, e, h1, h2⟩ := k
    exact ⟨a, c, e, RelVs.mono h first a.toList h1, RelVs.mono h caps c.toList h2⟩
theorem RelVs.mono {x y : Cx} (h : Ext x y) : ∀ (as : List AV) (vs : List Value), RelVs x as vs → RelVs y as vs
  | [], [], _ => by simp only [RelVs]
  | [], _ :: _, k => by simp [RelVs] at k
  | _ :: _, [], k => by simp [RelVs] at k
  | a :: as, v :: vs, k => by
    simp only [RelVs] at k ⊢
    exact ⟨RelV.mono h a v k.1, RelVs.mono h as vs k.2⟩
end

theorem RelC.up {x : Cx} : ∀ {c : CV} {v : Value}, RelC x.w x.I c v → RelV x c.up v
  | .b _, v, h => by simp only [CV.up, RelV]; exact h
  | .i _ _, v, h => by simp only [CV.up, RelV]; exact h
  | .s _, v, h => by simp only [CV.up, RelV]; exact h
  | .raw _, v, h => by simp only [CV.up, RelV]; exact h
  | .fs _ _ _, v, h => by simp only [CV.up, RelV]; exact h

theorem RelC.one {w : World} {I : Nat → Prop} : ∀ {c : CV} {v : Value}, RelC w I c v → v.oneCell' = true
  | .b _, v, h => by cases h; rfl
  | .i _ _, v, h => by cases h; rfl
  | .s _, v, h => by cases h; rfl
  | .raw _, v, h => by rw [h.1]; exact h.2
  | .fs _ _ _, v, h => by obtain ⟨A, cap, e, _⟩ := h; rw [e]; rfl

end Go.Hb

namespace Go.Hb
open Go.RowKit

def lk {α : Type} (k : Nat) : List (Nat × α) → Option α
  | [] => none
  | (j, v) :: r => match Nat.beq k j with
    | true => some v
    | false => lk k r

theorem lk_cons {α : Type} (k j : Nat) (v : α) (r : List (Nat × α)) : lk k ((j, v) :: r) = if k = j then some v else lk k r := by
  by_cases h : k = j
  · subst h
    simp [lk]
  · have : Nat.beq k j = false := by
      cases e : Nat.beq k j with
      | false => rfl
      | true => exact absurd (Nat.eq_of_beq_eq_true e) h
    simp [lk, this, h]

inductive X where
  | t (n : Nat)
  | c (v : AV)

def gx (env : List (Nat × AV)) (K : AV → Prop) : X → Prop
  | .t n => match lk n env with
    | some v => K v
    | none => False
  | .c v => K v

def gxs (env : List (Nat × AV)) : List X → (List AV → Prop) → Prop
  | [], K => K []
  | x :: xs, K => gx env (fun v => gxs env xs fun vs => K (v :: vs)) x

/-- A constant, seen as a value of ours. -/
def vAV1 : Value → AV
  | .bool true => .tt
  | .bool false => .ff
  | .int k n => .i k n
  | .string s => .s s
  | .slice none 0 0 => .nils
  | v => .raw v
def vAV : Value → AV
  | .agg cs => .agg (cs.toList.map vAV1)
  | .func f _ _ => .fn f [] []
  | v => vAV1 v
def vOk : Value → Bool
  | .agg cs => cs.toList.all fun v => v.oneCell'
  | .tuple _ => false
  | .func _ a b => a.size == 0 && b.size == 0
  | _ => true

theorem vAV1_rel (x : Cx) (v : Value) (h : v.oneCell' = true) : RelV x (vAV1 v) v := by
  unfold vAV1
  split
  all_goals first
    | (simp only [RelV]; done)
    | (unfold RelV; exact ⟨rfl, h⟩)

theorem vAV1s_rel (x : Cx) : ∀ (l : List Value), (l.all fun v => v.oneCell') = true → RelVs x (l.map vAV1) l
  | [], _ => by simp [RelVs]
  | v :: l, h => by
    simp only [List.all_cons, Bool.and_eq_true] at h
    simp only [List.map_cons, RelVs]
    exact ⟨vAV1_rel x v h.1, vAV1s_rel x l h.2⟩

theorem vAV_rel (x : Cx) (v : Value) (h : vOk v = true) : RelV x (vAV v) v := by
  cases v with
  | agg cs =>
    simp only [vAV, RelV]
    exact ⟨cs, rfl, vAV1s_rel x cs.toList (by simpa [vOk] using h)⟩
  | tuple cs => simp [vOk] at h
  | func f a b =>
    simp only [vOk, Bool.and_eq_true, beq_iff_eq] at h
    simp only [vAV, RelV]
    refine ⟨a, b, rfl, ?_, ?_⟩
    · rw [Array.eq_empty_of_size_eq_zero h.1]; simp [RelVs]
    · rw [Array.eq_empty_of_size_eq_zero h.2]; simp [RelVs]
  | _ => simp only [vAV]; exact vAV1_rel x _ rfl

def convX : Operand → Option X
  | .tmp t => some (.t t)
  | .const v => match vOk v with
    | true => some (.c (vAV v))
    | false => none
  | .func f => some (.c (.fn (.func f) [] []))
  | .global _ => none

def X.tmps : X → List Nat
  | .t n => [n]
  | .c _ => []

/-- What is known of the slots `ts`. -/
def Known (x : Cx) (env : List (Nat × AV)) (tmps : Array Value) (ts : List Nat) : Prop :=
  ∀ t ∈ ts, ∀ v, lk t env = some v → ∃ u, tmps[t]? = some u ∧ RelV x v u

theorem gx_sound {env : List (Nat × AV)} {o : Operand} {m : X} {K : AV → Prop} (hc : convX o = some m) (h : gx env K m) :
    ∃ v, K v ∧ ∀ (x : Cx) (a : Act), Known x env a.tmps m.tmps → RelV x v (a.eval o) := by
  cases o with
  | tmp t =>
    simp only [convX, Option.some.injEq] at hc
    subst hc
    simp only [gx] at h
    cases hl : lk t env with
    | none => simp [hl] at h
    | some v =>
      simp only [hl] at h
      refine ⟨v, h, fun x a hk => ?_⟩
      obtain ⟨u, hu, hr⟩ := hk t (by simp [X.tmps]) v hl
      simpa [Act.eval, Array.getD_eq_getD_getElem?, hu] using hr
  | const v =>
    simp only [convX] at hc
    split at hc
    · rename_i hv
      simp only [Option.some.injEq] at hc
      subst hc
      exact ⟨_, h, fun x a _ => vAV_rel x v hv⟩
    · cases hc
  | func f =>
    simp only [convX, Option.some.injEq] at hc
    subst hc
    refine ⟨_, h, fun x a _ => ?_⟩
    simp only [RelV, Act.eval]
    exact ⟨#[], #[], rfl, by simp [RelVs], by simp [RelVs]⟩
  | global g => simp [convX] at hc

theorem Known.sub {x : Cx} {env : List (Nat × AV)} {tmps : Array Value} {ts us : List Nat} (h : Known x env tmps ts) (hs : ∀ t ∈ us, t ∈ ts) : Known x env tmps us :=
  fun t ht => h t (hs t ht)

def convXs : List Operand → Option (List X)
  | [] => some []
  | o :: r => match convX o, convXs r with
    | some x, some xs => some (x :: xs)
    | _, _ => none

def tmpsOf (l : List X) : List Nat := l.flatMap X.tmps

theorem gxs_sound {env : List (Nat × AV)} : ∀ {os : List Operand} {ms : List X} {K : List AV → Prop}, convXs os = some ms → gxs env ms K →
    ∃ vs, K vs ∧ ∀ (x : Cx) (a : Act), Known x env a.tmps (tmpsOf ms) → RelVs x vs (os.map a.eval)
  | [], ms, K, hc, h => by
    simp only [convXs, Option.some.injEq] at hc
    subst hc
    exact ⟨[], h, fun x a _ => by simp [RelVs]⟩
  | o :: os, ms, K, hc, h => by
    simp only [convXs] at hc
    split at hc
    · rename_i m ms' h1 h2
      simp only [Option.some.injEq] at hc
      subst hc
      obtain ⟨v, hv, hr⟩ := gx_sound h1 h
      obtain ⟨vs, hvs, hrs⟩ := gxs_sound h2 hv
      refine ⟨v :: vs, hvs, fun x a hk => ?_⟩
      simp only [List.map_cons, RelVs]
      refine ⟨hr x a (hk.sub fun t ht => ?_), hrs x a (hk.sub fun t ht => ?_)⟩
      · simp only [tmpsOf, List.flatMap_cons, List.mem_append]
        exact .inl ht
      · simp only [tmpsOf, List.flatMap_cons, List.mem_append]
        exact .inr ht
    · cases hc

/-! ### Blocks -/

/-- No cell of the block is frozen. -/
def Thaw (fr : Nat × Nat) (n : Nat) : Prop := ∀ o, o < n → ¬ (fr.1 ≤ o ∧ o < fr.2)
theorem Thaw.le {fr : Nat × Nat} {n m : Nat} (h : Thaw fr n) (hm : m ≤ n) : Thaw fr m := fun o ho => h o (Nat.lt_of_lt_of_le ho hm)
theorem Thaw.zero (n : Nat) : Thaw (0, 0) n := fun o _ h => by have := h.2; simp at this

def BlkRel (x : Cx) : Blk → Nat → Prop
  | .lit cs, b => ∃ arr ty fr, x.w.heap[b]? = some (Obj.cells arr ty fr) ∧ Thaw fr (arr.size + 1) ∧ RelVs x cs arr.toList
  | .rows n size cell, b => ∃ arr ty fr, x.w.heap[b]? = some (Obj.cells arr ty fr) ∧ Thaw fr arr.size ∧ n * size ≤ arr.size ∧
      ∀ i j, i < n → j < size → ∃ u, arr[i * size + j]? = some u ∧ RelC x.w x.I (cell i j) u
  | .dead, _ => True

theorem BlkRel.mono {x y : Cx} (h : Ext x y) {k : Blk} {b : Nat} (hb : y.w.heap[b]? = x.w.heap[b]?) (hr : BlkRel x k b) : BlkRel y k b := by
  cases k with
  | lit cs =>
    obtain ⟨arr, ty, fr, e, hf, r⟩ := hr
    exact ⟨arr, ty, fr, hb.trans e, hf, RelVs.mono h _ _ r⟩
  | rows n size cell =>
    obtain ⟨arr, ty, fr, e, hf, hn, r⟩ := hr
    refine ⟨arr, ty, fr, hb.trans e, hf, hn, fun i j h1 h2 => ?_⟩
    obtain ⟨u, hu, hr⟩ := r i j h1 h2
    exact ⟨u, hu, RelC.mono h.sub h.kept _ _ hr⟩
  | dead => trivial

def AV.cv : AV → Option CV
  | .tt => some (.b true)
  | .ff => some (.b false)
  | .b x => some (.b x)
  | .i k n => some (.i k n)
  | .s x => some (.s x)
  | .raw v => some (.raw v)
  | .fs n size cell => some (.fs n size cell)
  | .nils => some (.raw (.slice none 0 0))
  | _ => none

theorem AV.cv_rel {x : Cx} : ∀ {a : AV} {c : CV} {v : Value}, a.cv = some c → RelV x a v → RelC x.w x.I c v := by
  intro a c v hc h
  cases a with
  | nils =>
    simp only [AV.cv, Option.some.injEq] at hc
    subst hc
    simp only [RelV] at h
    subst h
    exact ⟨rfl, rfl⟩
  | fe _ _ _ => simp [AV.cv] at hc
  | p _ _ => simp [AV.cv] at hc
  | pr _ _ _ _ => simp [AV.cv] at hc
  | sl _ _ _ _ => simp [AV.cv] at hc
  | sa _ _ _ _ => simp [AV.cv] at hc
  | sk _ _ _ _ _ => simp [AV.cv] at hc
  | agg _ => simp [AV.cv] at hc
  | tup _ => simp [AV.cv] at hc
  | fn _ _ _ => simp [AV.cv] at hc
  | _ =>
    simp only [AV.cv, Option.some.injEq] at hc
    subst hc
    simp only [RelV] at h
    exact h

end Go.Hb

namespace Go.Hb
open Go.RowKit

/-! ### What may be taken first: it only computes, and reads -/

inductive MO where
  | mv (x : X)
  | pick (c a b : X)
  | load (sz : Nat) (ag : Bool) (x : X)
  | bin (op : BinOp) (x y : X)
  | eqB (ne : Bool) (x y : X)
  | un (op : UnOp) (x : X)
  | faddr (off : Nat) (x : X)
  | field (off sz : Nat) (ag : Bool) (x : X)
  | iaddr (size : Nat) (x i : X)
  | iaddrA (n size : Nat) (x i : X)
  | idxS (x i : X)
  | ext (x : X) (i : Nat)
  | len (str : Bool) (x : X)
  | conv (k : IntKind) (x : X)
  | slcS (x : X) (lo hi : Option X)
  | slc (size : Nat) (x : X) (lo hi : Option X)
  | slcA (n size : Nat) (x : X) (lo hi : Option X)
  | mkfn (f : Fn) (first caps : List X)
  | nilck (x : X)
  | build (zs : List AV) (parts : List (Nat × Nat × X))
  | cap (x : X)
  | mm (mx : Bool) (x y : X)
  | b2s (x : X)
  | slc3 (size : Nat) (x : X) (lo hi : Option X) (mx : X)
  | idxA (n size : Nat) (ag : Bool) (x i : X)
  | eqA (ne : Bool) (ks : List Nat) (x y : X)

def tAgg (P : Program) (t : TypeId) : Option Bool :=
  match P.underlying t with
  | some (.struct _) => some true
  | some (.array _ _) => some true
  | some _ => some false
  | none => none
def tSize (P : Program) (t : TypeId) : Option Nat := (P.info? t).map (·.size)

/-- A list with some in the place of others. -/
def setAt : List AV → Nat → List AV → List AV
  | l, _, [] => l
  | [], _, _ => []
  | _ :: r, 0, v :: vs => v :: setAt r 0 vs
  | a :: r, k + 1, vs => a :: setAt r k vs
def takeAt (l : List AV) : Nat → Nat → Option (List AV)
  | _, 0 => some []
  | k, n + 1 => match l[k]?, takeAt l (k + 1) n with
    | some a, some r => some (a :: r)
    | _, _ => none
def feCells (cell : Nat → CV) : Nat → Nat → List AV
  | _, 0 => []
  | j, n + 1 => (cell j).up :: feCells cell (j + 1) n

def brk (x : Bool) (A B : Prop) : Prop := (x = true → A) ∧ (x = false → B)

def intBin (op : BinOp) (k : IntKind) (a b : Int) (K : AV → Prop) : Prop :=
  match op with
  | .add => K (.i k (k.wrap (a + b)))
  | .sub => K (.i k (k.wrap (a - b)))
  | .mul => K (.i k (k.wrap (a * b)))
  | .quo => b ≠ 0 ∧ K (.i k (k.wrap (a.tdiv b)))
  | .rem => b ≠ 0 ∧ K (.i k (a.tmod b))
  | .and => K (.i k (k.wrap ((BitVec.ofInt k.bits a &&& BitVec.ofInt k.bits b).toNat : Int)))
  | .or => K (.i k (k.wrap ((BitVec.ofInt k.bits a ||| BitVec.ofInt k.bits b).toNat : Int)))
  | .xor => K (.i k (k.wrap ((BitVec.ofInt k.bits a ^^^ BitVec.ofInt k.bits b).toNat : Int)))
  | .andNot => K (.i k (k.wrap ((BitVec.ofInt k.bits a &&& ~~~ BitVec.ofInt k.bits b).toNat : Int)))
  | .eql => K (.b (a == b))
  | .neq => K (.b (a != b))
  | .lss => K (.b (decide (a < b)))
  | .leq => K (.b (decide (a ≤ b)))
  | .gtr => K (.b (decide (a > b)))
  | .geq => K (.b (decide (a ≥ b)))
  | _ => False

def strBin (op : BinOp) (a b : ByteArray) (K : AV → Prop) : Prop :=
  match op with
  | .add => ((a.size + b.size : Nat) : Int) ≤ 9223372036854775807 ∧ K (.s (a ++ b))
  | .eql => K (.b (a.toList == b.toList))
  | .neq => K (.b (!(a.toList == b.toList)))
  | .lss => K (.b (Op.bytesLess a.toList b.toList))
  | .leq => K (.b (Op.bytesLess a.toList b.toList || a.toList == b.toList))
  | .gtr => K (.b (!(Op.bytesLess a.toList b.toList || a.toList == b.toList)))
  | .geq => K (.b (!(Op.bytesLess a.toList b.toList)))
  | _ => False

def avBin (op : BinOp) (a b : AV) (K : AV → Prop) : Prop :=
  match a, b with
  | .i k x, .i j y =>
    match op with
    | .shl => 0 ≤ y ∧ K (.i k (k.wrap (x * 2 ^ min y.toNat k.bits)))
    | .shr => 0 ≤ y ∧ K (.i k (x.fdiv (2 ^ min y.toNat k.bits)))
    | op => match decide (k = j) with
      | true => intBin op k x y K
      | false => False
  | .s x, .s y => strBin op x y K
  | _, _ => False

def boolOf : AV → Option Bool
  | .tt => some true
  | .ff => some false
  | .b x => some x
  | _ => none

/-- Are two cells alike: words, numbers, bools? -/
def eq1 (k : Nat) (a b : AV) : Option Bool :=
  match k with
  | 0 => match a, b with
    | .s x, .s y => some (x.toList == y.toList)
    | _, _ => none
  | 1 => match a, b with
    | .i k x, .i j y => (match decide (k = j) with
      | true => some (x == y)
      | false => none)
    | _, _ => none
  | _ => match boolOf a, boolOf b with
    | some x, some y => some (x == y)
    | _, _ => none
def eqCells : List Nat → List AV → List AV → Option Bool
  | [], [], [] => some true
  | k :: ks, a :: as, b :: bs => match eq1 k a b, eqCells ks as bs with
    | some q, some r => some (q && r)
    | _, _ => none
  | _, _, _ => none

def avUn (op : UnOp) (a : AV) (K : AV → Prop) : Prop :=
  match op, a with
  | .not, .b x => K (.b (!x))
  | .not, .tt => K .ff
  | .not, .ff => K .tt
  | .neg, .i k n => K (.i k (k.wrap (0 - n)))
  | .xor, .i k n => K (.i k (k.wrap ((BitVec.ofInt k.bits (if k.signed then -1 else k.max) ^^^ BitVec.ofInt k.bits n).toNat : Int)))
  | _, _ => False

def gxo (env : List (Nat × AV)) (d : Int) (K : Int → Prop) : Option X → Prop
  | none => K d
  | some x => gx env (fun v => match v with
    | .i _ z => K z
    | _ => False) x

/-- A part of what has n: from l to h. -/
def part (env : List (Nat × AV)) (n : Nat) (lo hi : Option X) (K : Nat → Nat → Prop) : Prop :=
  match lo, hi with
  | none, none => K 0 n
  | some lo, none => gx env (fun v => match v with
    | .i _ z => ∃ l : Nat, z = (l : Int) ∧ l ≤ n ∧ K l n
    | _ => False) lo
  | none, some hi => gx env (fun v => match v with
    | .i _ z => ∃ h : Nat, z = (h : Int) ∧ h ≤ n ∧ K 0 h
    | _ => False) hi
  | some lo, some hi => gx env (fun v => gx env (fun u => match v, u with
    | .i _ y, .i _ z => ∃ l h : Nat, y = (l : Int) ∧ z = (h : Int) ∧ l ≤ h ∧ h ≤ n ∧ K l h
    | _, _ => False) hi) lo

/-- A part of what has n, with room for c. -/
def partc (env : List (Nat × AV)) (n c : Nat) (lo hi : Option X) (K : Nat → Nat → Prop) : Prop :=
  match lo, hi with
  | none, none => K 0 n
  | some lo, none => gx env (fun v => match v with
    | .i _ z => ∃ l : Nat, z = (l : Int) ∧ l ≤ n ∧ K l n
    | _ => False) lo
  | none, some hi => gx env (fun v => match v with
    | .i _ z => ∃ h : Nat, z = (h : Int) ∧ h ≤ c ∧ K 0 h
    | _ => False) hi
  | some lo, some hi => gx env (fun v => gx env (fun u => match v, u with
    | .i _ y, .i _ z => ∃ l h : Nat, y = (l : Int) ∧ z = (h : Int) ∧ l ≤ h ∧ h ≤ c ∧ K l h
    | _, _ => False) hi) lo

def cvs : List AV → Option (List CV)
  | [] => some []
  | a :: r => match a.cv, cvs r with
    | some c, some cs => some (c :: cs)
    | _, _ => none

/-- A row of bytes, as a string. -/
def bytesOf (n : Nat) (f : Nat → CV) : ByteArray := ⟨(Array.range n).map fun i => match f i with
  | .i _ z => UInt8.ofNat z.toNat
  | _ => 0⟩
def isByte : CV → Prop
  | .i .u8 _ => True
  | _ => False

def fillAt : List AV → List (Nat × Nat × AV) → (List AV → Prop) → Prop
  | l, [], K => K l
  | l, (off, sz, v) :: r, K => match Nat.beq v.cells.length sz, Nat.ble (off + sz) l.length with
    | true, true => fillAt (setAt l off v.cells) r K
    | _, _ => False

def gparts (env : List (Nat × AV)) : List (Nat × Nat × X) → (List (Nat × Nat × AV) → Prop) → Prop
  | [], K => K []
  | (o, s, x) :: r, K => gx env (fun v => gparts env r fun vs => K ((o, s, v) :: vs)) x

def lop (env : List (Nat × AV)) (H : List (Nat × Blk)) (o : MO) (K : AV → Option Nat → Prop) : Prop :=
  match o with
  | .mv x => gx env (fun v => K v none) x
  | .pick c a b => gx env (fun v => match v with
    | .tt => gx env (fun u => K u none) a
    | .ff => gx env (fun u => K u none) b
    | .b x => brk x (gx env (fun u => K u none) a) (gx env (fun u => K u none) b)
    | _ => False) c
  | .load sz ag x => gx env (fun v => match v with
    | .p id k => match lk id H with
      | some (.lit cs) => match ag with
        | true => match takeAt cs k sz with
          | some l => K (.agg l) (some id)
          | none => False
        | false => match cs[k]? with
          | some a => K a (some id)
          | none => False
      | _ => False
    | .pr id size i j => match lk id H with
      | some (.rows n size' cell) => match Nat.beq size size', ag, Nat.ble (j + sz) size with
        | true, true, true => i < n ∧ K (.agg (feCells (cell i) j sz)) (some id)
        | true, false, true => i < n ∧ (match Nat.beq sz 1 with
          | true => K (cell i j).up (some id)
          | false => False)
        | _, _, _ => False
      | _ => False
    | .fe size cell j => match ag, Nat.ble (j + sz) size with
      | true, true => K (.agg (feCells cell j sz)) none
      | false, true => (match Nat.beq sz 1 with
        | true => K (cell j).up none
        | false => False)
      | _, _ => False
    | _ => False) x
  | .bin op x y => gx env (fun a => gx env (fun b => avBin op a b fun v => K v none) y) x
  | .eqB ne x y => gx env (fun a => gx env (fun b => match boolOf a, boolOf b with
    | some p, some q => (match ne with
      | true => K (.b (!(p == q))) none
      | false => K (.b (p == q)) none)
    | _, _ => False) y) x
  | .un op x => gx env (fun a => avUn op a fun v => K v none) x
  | .faddr off x => gx env (fun v => match v with
    | .p id k => K (.p id (k + off)) none
    | .pr id size i j => K (.pr id size i (j + off)) none
    | .fe size cell j => match Nat.ble (j + off + 1) size with
      | true => K (.fe size cell (j + off)) none
      | false => False
    | _ => False) x
  | .field off sz ag x => gx env (fun v => match v with
    | .agg cs => match ag with
      | true => match takeAt cs off sz with
        | some l => K (.agg l) none
        | none => False
      | false => match cs[off]? with
        | some a => K a none
        | none => False
    | _ => False) x
  | .iaddr size x i => gx env (fun v => gx env (fun iv => match iv with
    | .i _ z => match v with
      | .fs n size' cell => match Nat.beq size size' with
        | true => ∃ m : Nat, z = (m : Int) ∧ m < n ∧ K (.fe size (cell m) 0) none
        | false => False
      | .sl id size' start n => match Nat.beq size size' with
        | true => ∃ m : Nat, z = (m : Int) ∧ m < n ∧ K (.pr id size (start + m) 0) none
        | false => False
      | .sa id size' off n => match Nat.beq size size' with
        | true => ∃ m : Nat, z = (m : Int) ∧ m < n ∧ K (.p id (off + m * size)) none
        | false => False
      | .sk id size' start n _ => match Nat.beq size size' with
        | true => ∃ m : Nat, z = (m : Int) ∧ m < n ∧ K (.pr id size (start + m) 0) none
        | false => False
      | _ => False
    | _ => False) i) x
  | .iaddrA n size x i => gx env (fun v => gx env (fun iv => match iv with
    | .i _ z => match v with
      | .p id k => match lk id H with
        | some (.rows _ size' _) => match Nat.beq size size', Nat.beq k 0 with
          | true, true => ∃ m : Nat, z = (m : Int) ∧ m < n ∧ K (.pr id size m 0) none
          | _, _ => False
        | _ => ∃ m : Nat, z = (m : Int) ∧ m < n ∧ K (.p id (k + m * size)) none
      | .pr id size' i' j => ∃ m : Nat, z = (m : Int) ∧ m < n ∧ K (.pr id size' i' (j + m * size)) none
      | .fe size' cell j => ∃ m : Nat, z = (m : Int) ∧ m < n ∧ j + m * size < size' ∧ K (.fe size' cell (j + m * size)) none
      | _ => False
    | _ => False) i) x
  | .idxS x i => gx env (fun v => gx env (fun iv => match v, iv with
    | .s s, .i _ z => ∃ m : Nat, z = (m : Int) ∧ ∃ h : m < s.size, K (.i .u8 ((s[m]'h).toNat : Int)) none
    | _, _ => False) i) x
  | .ext x i => gx env (fun v => match v with
    | .tup l => match l[i]? with
      | some a => K a none
      | none => False
    | _ => False) x
  | .len str x => gx env (fun v => match str with
    | true => match v with
      | .s s => K (.i .i64 (s.size : Int)) none
      | _ => False
    | false => match v with
      | .fs n _ _ => K (.i .i64 (n : Int)) none
      | .nils => K (.i .i64 ((0 : Nat) : Int)) none
      | .sl _ _ _ n => K (.i .i64 (n : Int)) none
      | .sa _ _ _ n => K (.i .i64 (n : Int)) none
      | .sk _ _ _ n _ => K (.i .i64 (n : Int)) none
      | _ => False) x
  | .conv k x => gx env (fun v => match v with
    | .i _ n => K (.i k (k.wrap n)) none
    | _ => False) x
  | .slcS x lo hi => gx env (fun v => match v with
    | .s s => part env s.size lo hi fun l h => K (.s (s.extract l h)) none
    | _ => False) x
  | .slc size x lo hi => gx env (fun v => match v with
    | .fs n size' cell => match Nat.beq size size' with
      | true => part env n lo hi fun l h => K (.fs (h - l) size fun i j => cell (l + i) j) none
      | false => False
    | .sl id size' start n => match Nat.beq size size' with
      | true => part env n lo hi fun l h => K (.sl id size (start + l) (h - l)) none
      | false => False
    | .sa id size' off n => match Nat.beq size size' with
      | true => part env n lo hi fun l h => K (.sa id size (off + l * size) (h - l)) none
      | false => False
    | .sk id size' start n cap => match Nat.beq size size' with
      | true => partc env n cap lo hi fun l h => K (.sk id size (start + l) (h - l) (cap - l)) none
      | false => False
    | .nils => part env 0 lo hi fun _ _ => K .nils none
    | _ => False) x
  | .slcA n size x lo hi => gx env (fun v => match v with
    | .p id k => match lk id H with
      | some (.rows n' size' _) => match Nat.beq size size', Nat.beq k 0, Nat.beq n n' with
        | true, true, true => part env n lo hi fun l h => K (.sl id size l (h - l)) (some id)
        | _, _, _ => False
      | some (.lit cs) => match Nat.ble (k + n * size) cs.length with
        | true => part env n lo hi fun l h => K (.sa id size (k + l * size) (h - l)) (some id)
        | false => False
      | _ => False
    | .fe size' cell j => match Nat.ble (j + n * size) size' with
      | true => part env n lo hi fun l h => K (.fs (h - l) size fun a b => cell (j + (l + a) * size + b)) none
      | false => False
    | _ => False) x
  | .mkfn f first caps => gxs env first fun a => gxs env caps fun c => K (.fn f a c) none
  | .nilck x => gx env (fun v => match v with
    | .p _ _ => K v none
    | .pr _ _ _ _ => K v none
    | .fe _ _ _ => K v none
    | .fn (.func _) _ _ => K v none
    | _ => False) x
  | .build zs parts => gparts env parts fun l => fillAt zs l fun cs => K (.agg cs) none
  | .cap x => gx env (fun v => match v with
    | .sk _ _ _ _ c => K (.i .i64 (c : Int)) none
    | .nils => K (.i .i64 ((0 : Nat) : Int)) none
    | _ => False) x
  | .mm mx x y => gx env (fun a => gx env (fun b => match a, b with
    | .i k p, .i _ q => (match mx with
      | true => K (.i k (if q > p then q else p)) none
      | false => K (.i k (if q < p then q else p)) none)
    | _, _ => False) y) x
  | .b2s x => gx env (fun v => match v with
    | .fs n size cell => (match Nat.beq size 1 with
      | true => (∀ i, i < n → isByte (cell i 0)) ∧ K (.s (bytesOf n fun i => cell i 0)) none
      | false => False)
    | .nils => K (.s ByteArray.empty) none
    | .sl id size st n => (match lk id H with
      | some (.rows n' size' cell) => (match Nat.beq size 1, Nat.beq size' 1 with
        | true, true => st + n ≤ n' ∧ (∀ i, i < n → isByte (cell (st + i) 0)) ∧ K (.s (bytesOf n fun i => cell (st + i) 0)) (some id)
        | _, _ => False)
      | _ => False)
    | .sa id size off n => (match lk id H with
      | some (.lit cs) => (match Nat.beq size 1, takeAt cs off n with
        | true, some l => (match cvs l with
          | some cl => (∀ i, i < n → isByte (cl.getD i (.b false))) ∧ K (.s (bytesOf n fun i => cl.getD i (.b false))) (some id)
          | none => False)
        | _, _ => False)
      | _ => False)
    | _ => False) x
  | .slc3 size x lo hi mx => gx env (fun v => gx env (fun m => match m with
    | .i _ z => (match v with
      | .sk id size' start n cap => (match Nat.beq size size' with
        | true => ∃ c : Nat, z = (c : Int) ∧ c ≤ cap ∧ partc env c c lo hi fun l h => K (.sk id size (start + l) (h - l) (c - l)) none
        | false => False)
      | .sl id size' start n => (match Nat.beq size size' with
        | true => ∃ c : Nat, z = (c : Int) ∧ c ≤ n ∧ partc env c c lo hi fun l h => K (.sl id size (start + l) (h - l)) none
        | false => False)
      | _ => False)
    | _ => False) mx) x
  | .idxA n size ag x i => gx env (fun v => gx env (fun iv => match v, iv with
    | .agg cs, .i _ z => ∃ m : Nat, z = (m : Int) ∧ m < n ∧ (match ag with
      | true => ∃ l, takeAt cs (m * size) size = some l ∧ K (.agg l) none
      | false => ∃ a, cs[m * size]? = some a ∧ K a none)
    | _, _ => False) i) x
  | .eqA ne ks x y => gx env (fun a => gx env (fun b => match a, b with
    | .agg as, .agg bs => (match eqCells ks as bs with
      | some r => (match ne with
        | true => K (.b (!r)) none
        | false => K (.b r) none)
      | none => False)
    | _, _ => False) y) x

end Go.Hb

namespace Go.Hb
open Go.RowKit

/-- In every place where what it looks at is as we know it, the operation leaves such a value, and nothing else happens. -/
def Ylds (P : Program) (o : Oper) (ts : List Nat) (env : List (Nat × AV)) (H : List (Nat × Blk)) (v : AV) (tch : Option Nat) : Prop :=
  ∀ (x : Cx) (a : Act), Known x env a.tmps ts → (∀ id, tch = some id → ∀ blk b, lk id H = some blk → x.loc id = some b → BlkRel x blk b) →
    ∃ u, (execOp a.eval o).run P x.w = .ok (.value u) x.w ∧ RelV x v u

section
variable {P : Program} {env : List (Nat × AV)} {H : List (Nat × Blk)} {K : AV → Option Nat → Prop} {o : Oper}

theorem lop_mv {ox : Operand} {x : X} (ho : o.op = .move ox ∨ o.op = .assign ox) (hx : convX ox = some x) (h : lop env H (.mv x) K) :
    ∃ v t, K v t ∧ Ylds P o x.tmps env H v t := by
  obtain ⟨v, hv, hr⟩ := gx_sound hx h
  refine ⟨v, none, hv, fun c a hk _ => ⟨_, ?_, hr c a hk⟩⟩
  rcases ho with ho | ho <;> simp [execOp, ho]

theorem lop_pick {oc oa ob : Operand} {xc xa xb : X} (ho : o.op = .pick oc oa ob) (hc : convX oc = some xc) (ha : convX oa = some xa) (hb : convX ob = some xb)
    (h : lop env H (.pick xc xa xb) K) : ∃ v t, K v t ∧ Ylds P o (xc.tmps ++ (xa.tmps ++ xb.tmps)) env H v t := by
  obtain ⟨v, hv, hr⟩ := gx_sound hc h
  have key : ∀ (b : Bool), (∀ (c : Cx) (a : Act), Known c env a.tmps xc.tmps → a.eval oc = .bool b) → gx env (fun u => K u none) (if b then xa else xb) →
      ∃ v t, K v t ∧ Ylds P o (xc.tmps ++ (xa.tmps ++ xb.tmps)) env H v t := by
    intro b hev hg
    have hcv : convX (if b then oa else ob) = some (if b then xa else xb) := by cases b <;> simpa
    obtain ⟨u, hu, hru⟩ := gx_sound hcv hg
    refine ⟨u, none, hu, fun c a hk _ => ⟨a.eval (if b then oa else ob), ?_, hru c a (hk.sub fun t ht => ?_)⟩⟩
    · have := hev c a (hk.sub fun t ht => by simp [ht])
      cases b <;> simp [execOp, ho, this, asBool]
    · cases b <;> simp at ht <;> simp [ht]
  cases v with
  | tt => exact key true (fun c a hk => by have := hr c a hk; simpa [RelV] using this) hv
  | ff => exact key false (fun c a hk => by have := hr c a hk; simpa [RelV] using this) hv
  | b y =>
    cases y with
    | true => exact key true (fun c a hk => by have := hr c a hk; simpa [RelV] using this) (hv.1 rfl)
    | false => exact key false (fun c a hk => by have := hr c a hk; simpa [RelV] using this) (hv.2 rfl)
  | _ => exact hv.elim

theorem isAgg_run {t : TypeId} {b : Bool} (h : tAgg P t = some b) (w : World) : (isAgg t).run P w = .ok b w := by
  unfold tAgg at h
  split at h <;> simp at h <;> subst h
  · rename_i e; simp [isAgg, run_underlying e]
  · rename_i e; simp [isAgg, run_underlying e]
  · rename_i d h1 h2 e
    simp only [isAgg, Sem.run_bind, run_underlying e, Result.andThen_ok]
    cases d <;> simp_all
theorem sizeOf_run {t : TypeId} {n : Nat} (h : tSize P t = some n) (w : World) : (sizeOf t).run P w = .ok n w := by
  unfold tSize at h
  obtain ⟨i, hi, rfl⟩ := Option.map_eq_some_iff.1 h
  simp [sizeOf, typeInfo, hi]

theorem takeAt_spec : ∀ {l : List AV} {n k : Nat} {r : List AV}, takeAt l k n = some r → r.length = n ∧ ∀ j a, r[j]? = some a → l[k + j]? = some a
  | l, 0, k, r, h => by
    simp [takeAt] at h
    subst h
    simp
  | l, n + 1, k, r, h => by
    simp only [takeAt] at h
    split at h
    · rename_i a r' h1 h2
      simp only [Option.some.injEq] at h
      subst h
      obtain ⟨hl, hr⟩ := takeAt_spec h2
      refine ⟨by simp [hl], fun j b hb => ?_⟩
      cases j with
      | zero => simp at hb; subst hb; simpa using h1
      | succ j => simp at hb; rw [show k + (j + 1) = k + 1 + j by omega]; exact hr j b hb
    · cases h

theorem feCells_length (cell : Nat → CV) : ∀ (n j : Nat), (feCells cell j n).length = n
  | 0, _ => rfl
  | n + 1, j => by simp [feCells, feCells_length cell n]
theorem feCells_get (cell : Nat → CV) : ∀ (n j i : Nat), i < n → (feCells cell j n)[i]? = some (cell (j + i)).up
  | 0, _, _, h => absurd h (Nat.not_lt_zero _)
  | n + 1, j, 0, _ => by simp [feCells]
  | n + 1, j, i + 1, h => by
    simp only [feCells, List.getElem?_cons_succ]
    rw [feCells_get cell n (j + 1) i (by omega)]
    rw [show j + 1 + i = j + (i + 1) by omega]

theorem RelVs_of {x : Cx} : ∀ {as : List AV} {vs : List Value}, vs.length = as.length → (∀ (i : Nat) a v, as[i]? = some a → vs[i]? = some v → RelV x a v) → RelVs x as vs
  | [], [], _, _ => by simp [RelVs]
  | [], _ :: _, h, _ => by simp at h
  | _ :: _, [], h, _ => by simp at h
  | a :: as, v :: vs, h, k => by
    simp only [RelVs]
    exact ⟨k 0 a v rfl rfl, RelVs_of (by simpa using h) fun i b u hb hu => k (i + 1) b u (by simpa using hb) (by simpa using hu)⟩

/-- Loading cells that are known one by one. -/
theorem load_agg {x : Cx} {ad : Addr} {l : List AV} {t : TypeId} (hag : tAgg P t = some true) (hsz : tSize P t = some l.length)
    (hc : ∀ (j : Nat) a, l[j]? = some a → ∃ u, x.w.cell? (ad.add j) = some u ∧ RelV x a u) :
    ∃ u, (loadVar t ad).run P x.w = .ok u x.w ∧ RelV x (.agg l) u := by
  have hf : ∀ j : Nat, ∃ u, ∀ a, l[j]? = some a → x.w.cell? (ad.add j) = some u ∧ RelV x a u := by
    intro j
    cases hj : l[j]? with
    | none => exact ⟨undef, fun a ha => by cases ha⟩
    | some a =>
      obtain ⟨u, h1, h2⟩ := hc j a hj
      exact ⟨u, fun b hb => by simp only [Option.some.injEq] at hb; subst hb; exact ⟨h1, h2⟩⟩
  obtain ⟨f, hf⟩ := Classical.axiomOfChoice hf
  refine ⟨.agg ((Array.range l.length).map f), ?_, ?_⟩
  · simp only [loadVar, Sem.run_bind, isAgg_run hag, Result.andThen_ok, if_true, sizeOf_run hsz]
    rw [run_loadCells x.w ad l.length f]
    · simp only [Sem.run_bind, Sem.run_pure, Result.andThen_ok]
      congr 2
      apply Array.ext'
      simp
    · intro j hj
      exact (hf j l[j] (List.getElem?_eq_getElem hj)).1
  · simp only [RelV]
    refine ⟨_, rfl, RelVs_of (by simp) fun i a v ha hv => ?_⟩
    have hlt : i < l.length := (List.getElem?_eq_some_iff.1 ha).1
    have : v = f i := by
      have : ((Array.range l.length).map f).toList[i]? = some (f i) := by simp [hlt]
      rw [this] at hv
      exact (Option.some.inj hv).symm
    subst this
    exact (hf i a ha).2
theorem load_one {x : Cx} {ad : Addr} {a : AV} {u : Value} {t : TypeId} (hag : tAgg P t = some false) (hc : x.w.cell? ad = some u) (hr : RelV x a u) :
    ∃ u, (loadVar t ad).run P x.w = .ok u x.w ∧ RelV x a u := by
  refine ⟨u, ?_, hr⟩
  simp [loadVar, isAgg_run hag, hc]

theorem cell_of_blk {w : World} {b : Nat} {arr : Array Value} {ty : TypeId} {fr : Nat × Nat} (h : w.heap[b]? = some (Obj.cells arr ty fr)) (k : Nat) : w.cell? ⟨b, k, none⟩ = arr[k]? := by
  simp [World.cell?, h]

theorem lop_load {ox : Operand} {x : X} {t : TypeId} {sz : Nat} {ag : Bool} (ho : o.op = .load t ox) (hx : convX ox = some x) (hag : tAgg P t = some ag) (hsz : tSize P t = some sz)
    (h : lop env H (.load sz ag x) K) : ∃ v tch, K v tch ∧ Ylds P o x.tmps env H v tch := by
  obtain ⟨v, hv, hr⟩ := gx_sound hx h
  have fin : ∀ (y : AV) (tch : Option Nat), K y tch → (∀ (c : Cx) (u : Value), RelV c v u → (∀ id, tch = some id → ∀ blk b, lk id H = some blk → c.loc id = some b → BlkRel c blk b) →
      ∃ ad, u = .pointer (some ad) ∧ ∃ u', (loadVar t ad).run P c.w = .ok u' c.w ∧ RelV c y u') → ∃ v tch, K v tch ∧ Ylds P o x.tmps env H v tch := by
    intro y tch hy hrun
    refine ⟨y, tch, hy, fun c a hk ht => ?_⟩
    obtain ⟨ad, he, u', hrun', hrel⟩ := hrun c _ (hr c a hk) ht
    refine ⟨u', ?_, hrel⟩
    simp [execOp, ho, Instr.loadAt, he, Instr.sureAddr, hrun']
  cases v with
  | p id k =>
    simp only at hv
    cases hl : lk id H with
    | none => simp [hl] at hv
    | some blk =>
      cases blk with
      | lit cs =>
        simp only [hl] at hv
        cases ag with
        | true =>
          simp only at hv
          cases ht : takeAt cs k sz with
          | none => simp [ht] at hv
          | some l =>
            simp only [ht] at hv
            obtain ⟨hlen, hget⟩ := takeAt_spec ht
            refine fin _ _ hv fun c u hu htc => ?_
            simp only [RelV] at hu
            obtain ⟨b, hloc, rfl⟩ := hu
            have h3 := htc id rfl _ _ hl hloc
            obtain ⟨arr, ty, fr, hheap, _, hrel⟩ := h3
            refine ⟨_, rfl, load_agg hag (by rw [hlen]; exact hsz) fun j a ha => ?_⟩
            obtain ⟨u, hu, hra⟩ := RelVs_get hrel _ _ (hget j a ha)
            exact ⟨u, by rw [add_plain, cell_of_blk hheap]; simpa using hu, hra⟩
        | false =>
          simp only at hv
          cases ht : cs[k]? with
          | none => simp [ht] at hv
          | some l =>
            simp only [ht] at hv
            refine fin _ _ hv fun c u hu htc => ?_
            simp only [RelV] at hu
            obtain ⟨b, hloc, rfl⟩ := hu
            have h3 := htc id rfl _ _ hl hloc
            obtain ⟨arr, ty, fr, hheap, _, hrel⟩ := h3
            obtain ⟨u, hu, hra⟩ := RelVs_get hrel _ _ ht
            exact ⟨_, rfl, load_one hag (by rw [cell_of_blk hheap]; simpa using hu) hra⟩
      | _ => simp [hl] at hv
  | pr id size i j =>
    simp only at hv
    cases hl : lk id H with
    | none => simp [hl] at hv
    | some blk =>
      cases blk with
      | rows n size' cell =>
        simp only [hl] at hv
        cases hs : Nat.beq size size' with
        | false => simp [hs] at hv
        | true =>
          obtain rfl := Nat.eq_of_beq_eq_true hs
          cases hb : Nat.ble (j + sz) size with
          | false => cases ag <;> simp [hs, hb] at hv
          | true =>
            have hle : j + sz ≤ size := Nat.le_of_ble_eq_true hb
            cases ag with
            | true =>
              simp only [hs, hb] at hv
              obtain ⟨hin, hv⟩ := hv
              refine fin _ _ hv fun c u hu htc => ?_
              simp only [RelV] at hu
              obtain ⟨b, hloc, rfl⟩ := hu
              have h3 := htc id rfl _ _ hl hloc
              obtain ⟨arr, ty, fr, hheap, _, _, hrel⟩ := h3
              refine ⟨_, rfl, load_agg hag (by rw [feCells_length]; exact hsz) fun q a ha => ?_⟩
              have hq : q < sz := by
                have := (List.getElem?_eq_some_iff.1 ha).1
                rwa [feCells_length] at this
              rw [feCells_get _ _ _ _ hq] at ha
              cases ha
              obtain ⟨u, hu, hra⟩ := hrel i (j + q) hin (by omega)
              exact ⟨u, by rw [add_plain, cell_of_blk hheap, Nat.add_assoc]; exact hu, hra.up⟩
            | false =>
              simp only [hs, hb] at hv
              obtain ⟨hin, hv⟩ := hv
              cases h1 : Nat.beq sz 1 with
              | false => simp [h1] at hv
              | true =>
                simp only [h1] at hv
                obtain rfl := Nat.eq_of_beq_eq_true h1
                refine fin _ _ hv fun c u hu htc => ?_
                simp only [RelV] at hu
                obtain ⟨b, hloc, rfl⟩ := hu
                have h3 := htc id rfl _ _ hl hloc
                obtain ⟨arr, ty, fr, hheap, _, _, hrel⟩ := h3
                obtain ⟨u, hu, hra⟩ := hrel i j hin (by omega)
                exact ⟨_, rfl, load_one hag (by rw [cell_of_blk hheap]; exact hu) hra.up⟩
      | _ => simp [hl] at hv
  | fe size cell j =>
    simp only at hv
    cases hb : Nat.ble (j + sz) size with
    | false => cases ag <;> simp [hb] at hv
    | true =>
      have hle : j + sz ≤ size := Nat.le_of_ble_eq_true hb
      cases ag with
      | true =>
        simp only [hb] at hv
        refine fin _ _ hv fun c u hu _ => ?_
        simp only [RelV] at hu
        obtain ⟨ad, rfl, hI, hc⟩ := hu
        refine ⟨_, rfl, load_agg hag (by rw [feCells_length]; exact hsz) fun q a ha => ?_⟩
        have hq : q < sz := by
          have := (List.getElem?_eq_some_iff.1 ha).1
          rwa [feCells_length] at this
        rw [feCells_get _ _ _ _ hq] at ha
        cases ha
        obtain ⟨u, hu, hra⟩ := hc q (by omega)
        exact ⟨u, hu, hra.up⟩
      | false =>
        simp only [hb] at hv
        cases h1 : Nat.beq sz 1 with
        | false => simp [h1] at hv
        | true =>
          simp only [h1] at hv
          obtain rfl := Nat.eq_of_beq_eq_true h1
          refine fin _ _ hv fun c u hu _ => ?_
          simp only [RelV] at hu
          obtain ⟨ad, rfl, hI, hc⟩ := hu
          obtain ⟨u, hu, hra⟩ := hc 0 (by omega)
          have h0 : ad.add 0 = ad := by simp [Addr.add]
          rw [h0] at hu
          exact ⟨_, rfl, load_one hag hu (by simpa using hra.up)⟩
  | _ => exact hv.elim

/-- The one value that a plain number, string or bool is. -/
def valOf : AV → Value
  | .tt => .bool true
  | .ff => .bool false
  | .b x => .bool x
  | .i k n => .int k n
  | .s x => .string x
  | _ => undef
def plain : AV → Bool
  | .tt | .ff | .b _ | .i _ _ | .s _ => true
  | _ => false
theorem valOf_rel (c : Cx) {a : AV} (h : plain a = true) : RelV c a (valOf a) := by
  cases a <;> first
    | (simp [plain] at h; done)
    | (simp only [valOf, RelV]; done)
theorem valOf_eq {c : Cx} {a : AV} {u : Value} (h : plain a = true) (hr : RelV c a u) : u = valOf a := by
  cases a <;> first
    | (simp [plain] at h; done)
    | (simpa only [valOf, RelV] using hr)

theorem lop_bin {ox oy : Operand} {x y : X} {op : BinOp} {t t' : TypeId} (ho : o.op = .binOp op t ox oy t') (hx : convX ox = some x) (hy : convX oy = some y)
    (h : lop env H (.bin op x y) K) : ∃ v tch, K v tch ∧ Ylds P o (x.tmps ++ y.tmps) env H v tch := by
  obtain ⟨a, ha, hra⟩ := gx_sound hx h
  obtain ⟨b, hb, hrb⟩ := gx_sound hy ha
  have done : ∀ (y' : AV), plain a = true → plain b = true → plain y' = true → K y' none → (∀ w : World, ((eqGuard op t ox oy (valOf a) (valOf b)).run P w) = .ok () w) →
      (∀ w : World, (binOp op t (valOf a) (valOf b)).run P w = .ok (valOf y') w) → ∃ v tch, K v tch ∧ Ylds P o (x.tmps ++ y.tmps) env H v tch := by
    intro y' p1 p2 p3 hk h3 h4
    refine ⟨y', none, hk, fun c act hkn _ => ⟨valOf y', ?_, valOf_rel c p3⟩⟩
    have e1 := valOf_eq p1 (hra c act (hkn.sub fun t ht => by simp [ht]))
    have e2 := valOf_eq p2 (hrb c act (hkn.sub fun t ht => by simp [ht]))
    simp [execOp, ho, e1, e2, h3, h4]
  have gi : ∀ (k j : IntKind) (p q : Int) (w : World), (eqGuard op t ox oy (.int k p) (.int j q)).run P w = .ok () w := by
    intro k j p q w
    unfold eqGuard
    split <;> simp
  have gs : ∀ (p q : ByteArray) (w : World), (eqGuard op t ox oy (.string p) (.string q)).run P w = .ok () w := by
    intro p q w
    unfold eqGuard
    split <;> simp
  unfold avBin at hb
  cases a with
  | i k p =>
    cases b with
    | i j q =>
      cases op
      case shl =>
        obtain ⟨h0, hb⟩ := hb
        exact done _ rfl rfl rfl hb (gi _ _ _ _) (fun w => by simp [binOp, Op.shift, valOf, show ¬ q < 0 by omega])
      case shr =>
        obtain ⟨h0, hb⟩ := hb
        exact done _ rfl rfl rfl hb (gi _ _ _ _) (fun w => by simp [binOp, Op.shift, valOf, show ¬ q < 0 by omega])
      all_goals
        simp only at hb
        cases hkj : decide (k = j) with
        | false => simp [hkj] at hb
        | true =>
          simp only [hkj] at hb
          obtain rfl := of_decide_eq_true hkj
          simp only [intBin] at hb
          first
            | exact done _ rfl rfl rfl hb (gi _ _ _ _) (fun w => by simp [binOp, Op.intArith, Op.intCmp, Op.intBits, valOf])
            | exact done _ rfl rfl rfl hb.2 (gi _ _ _ _) (fun w => by simp [binOp, Op.intDiv, valOf, hb.1])
    | _ => exact hb.elim
  | s p =>
    cases b with
    | s q =>
      simp only [strBin] at hb
      cases op
      case add =>
        obtain ⟨h0, hb⟩ := hb
        have h0' : ¬ (((p.size + q.size : Nat) : Int) > IntKind.i64.max) := by
          have : IntKind.i64.max = 9223372036854775807 := by rfl
          rw [this]
          omega
        exact done _ rfl rfl rfl hb (gs _ _) (fun w => by simp only [binOp, Op.stringOp, valOf, if_neg h0', Sem.run_pure])
      all_goals first
        | exact hb.elim
        | exact done _ rfl rfl rfl hb (gs _ _) (fun w => by simp [binOp, Op.stringOp, valOf])
    | _ => exact hb.elim
  | _ => exact hb.elim

theorem boolOf_spec {c : Cx} {a : AV} {p : Bool} {u : Value} (h : boolOf a = some p) (hr : RelV c a u) : u = .bool p := by
  cases a with
  | tt => simp [boolOf] at h; subst h; simpa [RelV] using hr
  | ff => simp [boolOf] at h; subst h; simpa [RelV] using hr
  | b y => simp [boolOf] at h; subst h; simpa [RelV] using hr
  | _ => simp [boolOf] at h

theorem lop_eqB {ox oy : Operand} {x y : X} {ne : Bool} {t t' : TypeId} (ho : o.op = .binOp (if ne then .neq else .eql) t ox oy t') (ht : P.underlying t = some .bool)
    (hx : convX ox = some x) (hy : convX oy = some y) (h : lop env H (.eqB ne x y) K) : ∃ v tch, K v tch ∧ Ylds P o (x.tmps ++ y.tmps) env H v tch := by
  obtain ⟨a, ha, hra⟩ := gx_sound hx h
  obtain ⟨b, hb, hrb⟩ := gx_sound hy ha
  cases hp : boolOf a with
  | none => simp [hp] at hb
  | some p =>
    cases hq : boolOf b with
    | none => simp [hp, hq] at hb
    | some q =>
      simp only [hp, hq] at hb
      have hd : ∀ (d : Nat) (w : World), (Op.equalIn (d + 1) t (.bool p) (.bool q)).run P w = .ok (p == q) w := fun d w => by
        simp [Op.equalIn, run_underlying ht]
      have he : ∀ w : World, (Op.equal t (.bool p) (.bool q)).run P w = .ok (p == q) w := fun w => by
        unfold Op.equal Op.maxDepth
        exact hd 9999 w
      cases ne with
      | true =>
        refine ⟨_, none, hb, fun c act hk _ => ⟨.bool (!(p == q)), ?_, by simp [RelV]⟩⟩
        have e1 := boolOf_spec hp (hra c act (hk.sub fun t ht => by simp [ht]))
        have e2 := boolOf_spec hq (hrb c act (hk.sub fun t ht => by simp [ht]))
        simp [execOp, ho, e1, e2, eqGuard, binOp, he]
      | false =>
        refine ⟨_, none, hb, fun c act hk _ => ⟨.bool (p == q), ?_, by simp [RelV]⟩⟩
        have e1 := boolOf_spec hp (hra c act (hk.sub fun t ht => by simp [ht]))
        have e2 := boolOf_spec hq (hrb c act (hk.sub fun t ht => by simp [ht]))
        simp [execOp, ho, e1, e2, eqGuard, binOp, he]

theorem lop_un {ox : Operand} {x : X} {op : UnOp} {t : TypeId} (ho : o.op = .unOp op t ox) (hx : convX ox = some x)
    (h : lop env H (.un op x) K) : ∃ v tch, K v tch ∧ Ylds P o x.tmps env H v tch := by
  obtain ⟨a, ha, hra⟩ := gx_sound hx h
  have done : ∀ (y' : AV), plain a = true → plain y' = true → K y' none → (∀ w : World, (Op.unary op (valOf a)).run P w = .ok (valOf y') w) →
      ∃ v tch, K v tch ∧ Ylds P o x.tmps env H v tch := by
    intro y' p1 p3 hk h4
    refine ⟨y', none, hk, fun c act hkn _ => ⟨valOf y', ?_, valOf_rel c p3⟩⟩
    simp [execOp, ho, valOf_eq p1 (hra c act hkn), h4]
  unfold avUn at ha
  cases op <;> cases a <;> first
    | exact ha.elim
    | exact done _ rfl rfl ha (fun w => by simp [Op.unary, Op.intArith, Op.intBits, valOf])

theorem lop_conv {ox : Operand} {x : X} {k : IntKind} {t t' : TypeId} {s : IntKind} (ho : o.op = .convert t t' ox) (ht : P.underlying t = some (.int s)) (ht' : P.underlying t' = some (.int k)) (hx : convX ox = some x)
    (h : lop env H (.conv k x) K) : ∃ v tch, K v tch ∧ Ylds P o x.tmps env H v tch := by
  obtain ⟨a, ha, hra⟩ := gx_sound hx h
  cases a with
  | i j n =>
    refine ⟨_, none, ha, fun c act hk _ => ⟨.int k (k.wrap n), ?_, by simp [RelV]⟩⟩
    have e : act.eval ox = .int j n := by simpa [RelV] using hra c act hk
    simp [execOp, ho, convert, run_underlying ht, run_underlying ht', e, Conv.intToInt]
  | _ => exact ha.elim

theorem lop_convS {ox : Operand} {x : X} {t t' : TypeId} (ho : o.op = .convert t t' ox) (ht : P.underlying t = some .string) (ht' : P.underlying t' = some .string) (hx : convX ox = some x)
    (h : lop env H (.slcS x none none) K) : ∃ v tch, K v tch ∧ Ylds P o x.tmps env H v tch := by
  obtain ⟨a, ha, hra⟩ := gx_sound hx h
  cases a with
  | s y =>
    simp only [Go.Hb.part] at ha
    refine ⟨_, none, ha, fun c act hk _ => ⟨.string y, ?_, ?_⟩⟩
    · have e : act.eval ox = .string y := by simpa [RelV] using hra c act hk
      simp [execOp, ho, convert, run_underlying ht, run_underlying ht', e]
    · simp only [RelV]
      congr 1
      exact (ByteArray.extract_zero_size).symm
  | _ => exact ha.elim

theorem lop_ext {ox : Operand} {x : X} {i : Nat} (ho : o.op = .extract ox i) (hx : convX ox = some x)
    (h : lop env H (.ext x i) K) : ∃ v tch, K v tch ∧ Ylds P o x.tmps env H v tch := by
  obtain ⟨a, ha, hra⟩ := gx_sound hx h
  cases a with
  | tup l =>
    simp only at ha
    cases hl : l[i]? with
    | none => simp [hl] at ha
    | some b =>
      simp only [hl] at ha
      refine ⟨b, none, ha, fun c act hk _ => ?_⟩
      have hr := hra c act hk
      simp only [RelV] at hr
      obtain ⟨vs, e, hr⟩ := hr
      obtain ⟨u, hu, hru⟩ := RelVs_get hr i b hl
      refine ⟨u, ?_, hru⟩
      have hu' : vs[i]? = some u := by simpa using hu
      simp [execOp, ho, e, Instr.extract, hu']
  | _ => exact ha.elim

end
end Go.Hb

namespace Go.Hb
open Go.RowKit

section
variable {P : Program} {env : List (Nat × AV)} {H : List (Nat × Blk)} {K : AV → Option Nat → Prop} {o : Oper}

/-- Where a field lies: its offset; that it isn't empty. -/
def tField (P : Program) (t : TypeId) (f : Nat) : Option (Nat × TypeId) :=
  match P.underlying t with
  | some (.struct fs) => (fs[f]?).map fun x => (x.offset, x.type)
  | _ => none

theorem lop_faddr {ox : Operand} {x : X} {t ft : TypeId} {f off n : Nat} (ho : o.op = .fieldAddr t ox f) (hf : tField P t f = some (off, ft)) (hn : tSize P ft = some n) (hpos : n ≠ 0) (hx : convX ox = some x)
    (h : lop env H (.faddr off x) K) : ∃ v tch, K v tch ∧ Ylds P o x.tmps env H v tch := by
  obtain ⟨a, ha, hra⟩ := gx_sound hx h
  have hrun : ∀ (w : World) (ad : Addr), (Instr.fieldAt t (.pointer (some ad)) f).run P w = .ok (.pointer (some (ad.add off))) w := by
    intro w ad
    unfold tField at hf
    split at hf
    · rename_i fs hu
      obtain ⟨fd, hfd, he⟩ := Option.map_eq_some_iff.1 hf
      cases he
      simp [Instr.fieldAt, run_underlying hu, hfd, Instr.sureAddr, fieldPlace, sizeOf_run hn, hpos]
    · cases hf
  cases a with
  | p id k =>
    refine ⟨_, none, ha, fun c act hk _ => ?_⟩
    have hr := hra c act hk
    simp only [RelV] at hr ⊢
    obtain ⟨b, hl, e⟩ := hr
    refine ⟨_, ?_, b, hl, rfl⟩
    simp only [execOp, ho, e, Sem.run_bind, hrun, Result.andThen_ok, add_plain, Sem.run_pure]
  | pr id size i j =>
    refine ⟨_, none, ha, fun c act hk _ => ?_⟩
    have hr := hra c act hk
    simp only [RelV] at hr ⊢
    obtain ⟨b, hl, e⟩ := hr
    refine ⟨_, ?_, b, hl, rfl⟩
    simp only [execOp, ho, e, Sem.run_bind, hrun, Result.andThen_ok, add_plain, Sem.run_pure, Nat.add_assoc]
  | fe size cell j =>
    simp only at ha
    cases hb : Nat.ble (j + off + 1) size with
    | false => simp [hb] at ha
    | true =>
      simp only [hb] at ha
      refine ⟨_, none, ha, fun c act hk _ => ?_⟩
      have hr := hra c act hk
      simp only [RelV] at hr ⊢
      obtain ⟨ad, e, hI, hc⟩ := hr
      refine ⟨.pointer (some (ad.add off)), ?_, ad.add off, rfl, by rw [block_of_add]; exact hI, fun k hk => ?_⟩
      · simp only [execOp, ho, e, Sem.run_bind, hrun, Result.andThen_ok, Sem.run_pure]
      · rw [add_of_add, Nat.add_assoc]
        exact hc (off + k) (by omega)
  | _ => exact ha.elim

theorem array_extract_rel {c : Cx} {cs : List AV} {vs : Array Value} {off sz : Nat} {l : List AV} (h : RelVs c cs vs.toList) (ht : takeAt cs off sz = some l) : RelVs c l (vs.extract off (off + sz)).toList := by
  obtain ⟨hlen, hget⟩ := takeAt_spec ht
  have hvl := RelVs_length h
  have hle : off + sz ≤ cs.length ∨ sz = 0 := by
    rcases Nat.eq_zero_or_pos sz with h0 | h0
    · exact .inr h0
    · left
      have : l[sz - 1]? = some (l[sz-1]'(by omega)) := List.getElem?_eq_getElem _
      have := hget _ _ this
      have := (List.getElem?_eq_some_iff.1 this).1
      omega
  have hsz : vs.size = cs.length := by simpa using hvl
  refine RelVs_of (by simp; omega) fun i a v ha hv => ?_
  have hi : i < sz := by
    have := (List.getElem?_eq_some_iff.1 ha).1
    omega
  obtain ⟨u, hu, hr⟩ := RelVs_get h _ _ (hget i a ha)
  have : (vs.extract off (off + sz)).toList[i]? = vs.toList[off + i]? := by
    simp [List.getElem?_take, hi]
  rw [this] at hv
  rw [hu] at hv
  cases hv
  exact hr

theorem lop_field {ox : Operand} {x : X} {t ft : TypeId} {f off n : Nat} {ag : Bool} (ho : o.op = .field t ox f) (hf : tField P t f = some (off, ft)) (hag : tAgg P ft = some ag) (hn : tSize P ft = some n) (hx : convX ox = some x)
    (h : lop env H (.field off n ag x) K) : ∃ v tch, K v tch ∧ Ylds P o x.tmps env H v tch := by
  obtain ⟨a, ha, hra⟩ := gx_sound hx h
  cases a with
  | agg cs =>
    simp only at ha
    have hu : ∃ fs, P.underlying t = some (.struct fs) ∧ ∃ fd, fs[f]? = some fd ∧ fd.offset = off ∧ fd.type = ft := by
      unfold tField at hf
      split at hf
      · rename_i fs hu
        obtain ⟨fd, hfd, he⟩ := Option.map_eq_some_iff.1 hf
        cases he
        exact ⟨fs, hu, fd, hfd, rfl, rfl⟩
      · cases hf
    obtain ⟨fs, hu, fd, hfd, rfl, rfl⟩ := hu
    cases ag with
    | true =>
      simp only at ha
      cases ht : takeAt cs fd.offset n with
      | none => simp [ht] at ha
      | some l =>
        simp only [ht] at ha
        refine ⟨_, none, ha, fun c act hk _ => ?_⟩
        have hr := hra c act hk
        simp only [RelV] at hr ⊢
        obtain ⟨vs, e, hr⟩ := hr
        refine ⟨_, ?_, vs.extract fd.offset (fd.offset + n), rfl, array_extract_rel hr ht⟩
        simp [execOp, ho, e, Instr.field, run_underlying hu, hfd, asAgg, Go.part, isAgg_run hag, sizeOf_run hn]
    | false =>
      simp only at ha
      cases ht : cs[fd.offset]? with
      | none => simp [ht] at ha
      | some l =>
        simp only [ht] at ha
        refine ⟨_, none, ha, fun c act hk _ => ?_⟩
        have hr := hra c act hk
        simp only [RelV] at hr
        obtain ⟨vs, e, hr⟩ := hr
        obtain ⟨u, hu', hru⟩ := RelVs_get hr _ _ ht
        have hu'' : vs[fd.offset]? = some u := by simpa using hu'
        refine ⟨u, ?_, hru⟩
        simp [execOp, ho, e, Instr.field, run_underlying hu, hfd, asAgg, Go.part, isAgg_run hag, hu'']
  | _ => exact ha.elim

def tSlice (P : Program) (t : TypeId) : Option TypeId :=
  match P.underlying t with
  | some (.slice e) => some e
  | _ => none
def tArray (P : Program) (t : TypeId) : Option (Nat × TypeId) :=
  match P.underlying t with
  | some (.array n e) => some (n, e)
  | _ => none
theorem tSlice_spec {t e : TypeId} (h : tSlice P t = some e) : P.underlying t = some (.slice e) := by
  unfold tSlice at h
  split at h
  · rename_i hu; cases h; exact hu
  · cases h
theorem tArray_spec {t e : TypeId} {n : Nat} (h : tArray P t = some (n, e)) : P.underlying t = some (.array n e) := by
  unfold tArray at h
  split at h
  · rename_i hu; cases h; exact hu
  · cases h

theorem lop_iaddr {ox oi : Operand} {x i : X} {t e : TypeId} {size : Nat} (ho : o.op = .indexAddr t ox oi) (ht : tSlice P t = some e) (hs : tSize P e = some size) (hx : convX ox = some x) (hi : convX oi = some i)
    (h : lop env H (.iaddr size x i) K) : ∃ v tch, K v tch ∧ Ylds P o (x.tmps ++ i.tmps) env H v tch := by
  obtain ⟨a, ha, hra⟩ := gx_sound hx h
  obtain ⟨b, hb, hrb⟩ := gx_sound hi ha
  have hu := tSlice_spec ht
  have hrun : ∀ (w : World) (k : IntKind) (m : Nat) (ad : Addr) (n cap : Nat), m < n →
      (Instr.indexAt t (.slice (some ad) n cap) (.int k (m : Int))).run P w = .ok (.pointer (some (ad.add (m * size)))) w := by
    intro w k m ad n cap hm
    simp [Instr.indexAt, asIntOf, run_underlying hu, sizeOf_run hs, hm]
  cases b with
  | i k z =>
    have eb : ∀ (c : Cx) (act : Act), Known c env act.tmps (x.tmps ++ i.tmps) → act.eval oi = .int k z := fun c act hk => by
      have := hrb c act (hk.sub fun t ht => by simp [ht])
      simpa [RelV] using this
    cases a with
    | fs n size' cell =>
      simp only at hb
      cases hbq : Nat.beq size size' with
      | false => simp [hbq] at hb
      | true =>
        obtain rfl := Nat.eq_of_beq_eq_true hbq
        simp only [hbq] at hb
        obtain ⟨m, rfl, hm, hb⟩ := hb
        refine ⟨_, none, hb, fun c act hk _ => ?_⟩
        have hr := hra c act (hk.sub fun t ht => by simp [ht])
        simp only [RelV] at hr ⊢
        obtain ⟨A, cap, e1, hcap, hcell⟩ := hr
        obtain ⟨ad, rfl, hI, hcell⟩ := hcell (by omega)
        refine ⟨_, ?_, ad.add (m * size), rfl, by rw [block_of_add]; exact hI, fun q hq => ?_⟩
        · simp only [execOp, ho, e1, eb c act hk, Sem.run_bind, hrun _ _ _ _ _ _ hm, Result.andThen_ok, Sem.run_pure]
        · rw [add_of_add]
          simpa using hcell m q hm (by omega)
    | sl id size' start n =>
      simp only at hb
      cases hbq : Nat.beq size size' with
      | false => simp [hbq] at hb
      | true =>
        obtain rfl := Nat.eq_of_beq_eq_true hbq
        simp only [hbq] at hb
        obtain ⟨m, rfl, hm, hb⟩ := hb
        refine ⟨_, none, hb, fun c act hk _ => ?_⟩
        have hr := hra c act (hk.sub fun t ht => by simp [ht])
        simp only [RelV] at hr ⊢
        obtain ⟨bl, cap, off, hl, e1, hcap, hoff, _⟩ := hr.resolve_left (fun h => by have := h.1; omega)
        refine ⟨.pointer (some ⟨bl, (start + m) * size + 0, none⟩), ?_, bl, hl, rfl⟩
        simp only [execOp, ho, e1, eb c act hk, Sem.run_bind, hrun _ _ _ _ _ _ hm, Result.andThen_ok, Sem.run_pure, add_plain, hoff (by omega), Nat.add_mul, Nat.add_zero]
    | sa id size' off n =>
      simp only at hb
      cases hbq : Nat.beq size size' with
      | false => simp [hbq] at hb
      | true =>
        obtain rfl := Nat.eq_of_beq_eq_true hbq
        simp only [hbq] at hb
        obtain ⟨m, rfl, hm, hb⟩ := hb
        refine ⟨_, none, hb, fun c act hk _ => ?_⟩
        have hr := hra c act (hk.sub fun t ht => by simp [ht])
        simp only [RelV] at hr ⊢
        obtain ⟨bl, cap, off', hl, e1, hcap, hoff, _⟩ := hr
        refine ⟨.pointer (some ⟨bl, off + m * size, none⟩), ?_, bl, hl, rfl⟩
        simp only [execOp, ho, e1, eb c act hk, Sem.run_bind, hrun _ _ _ _ _ _ hm, Result.andThen_ok, Sem.run_pure, add_plain, hoff (by omega)]
    | sk id size' start n cap =>
      simp only at hb
      cases hbq : Nat.beq size size' with
      | false => simp [hbq] at hb
      | true =>
        obtain rfl := Nat.eq_of_beq_eq_true hbq
        simp only [hbq] at hb
        obtain ⟨m, rfl, hm, hb⟩ := hb
        refine ⟨_, none, hb, fun c act hk _ => ?_⟩
        have hr := hra c act (hk.sub fun t ht => by simp [ht])
        simp only [RelV] at hr ⊢
        obtain ⟨bl, off, hl, e1, hcap, hoff, _⟩ := hr
        refine ⟨.pointer (some ⟨bl, (start + m) * size + 0, none⟩), ?_, bl, hl, rfl⟩
        simp only [execOp, ho, e1, eb c act hk, Sem.run_bind, hrun _ _ _ _ _ _ hm, Result.andThen_ok, Sem.run_pure, add_plain, hoff (by omega), Nat.add_mul, Nat.add_zero]
    | _ => exact hb.elim
  | _ => exact hb.elim

theorem lop_iaddrA {ox oi : Operand} {x i : X} {t e : TypeId} {size n : Nat} (ho : o.op = .indexAddr t ox oi) (ht : tArray P t = some (n, e)) (hs : tSize P e = some size) (hx : convX ox = some x) (hi : convX oi = some i)
    (h : lop env H (.iaddrA n size x i) K) : ∃ v tch, K v tch ∧ Ylds P o (x.tmps ++ i.tmps) env H v tch := by
  obtain ⟨a, ha, hra⟩ := gx_sound hx h
  obtain ⟨b, hb, hrb⟩ := gx_sound hi ha
  have hu := tArray_spec ht
  have hrun : ∀ (w : World) (k : IntKind) (m : Nat) (ad : Addr), m < n →
      (Instr.indexAt t (.pointer (some ad)) (.int k (m : Int))).run P w = .ok (.pointer (some (ad.add (m * size)))) w := by
    intro w k m ad hm
    simp [Instr.indexAt, asIntOf, run_underlying hu, sizeOf_run hs, hm, Instr.sureAddr]
  cases b with
  | i k z =>
    have eb : ∀ (c : Cx) (act : Act), Known c env act.tmps (x.tmps ++ i.tmps) → act.eval oi = .int k z := fun c act hk => by
      have := hrb c act (hk.sub fun t ht => by simp [ht])
      simpa [RelV] using this
    cases a with
    | p id q =>
      simp only at hb
      have plain : (∃ m : Nat, z = (m : Int) ∧ m < n ∧ K (.p id (q + m * size)) none) → ∃ v tch, K v tch ∧ Ylds P o (x.tmps ++ i.tmps) env H v tch := by
        rintro ⟨m, rfl, hm, hb⟩
        refine ⟨_, none, hb, fun c act hk _ => ?_⟩
        have hr := hra c act (hk.sub fun t ht => by simp [ht])
        simp only [RelV] at hr ⊢
        obtain ⟨bl, hl, e1⟩ := hr
        refine ⟨.pointer (some ⟨bl, q + m * size, none⟩), ?_, bl, hl, rfl⟩
        simp only [execOp, ho, e1, eb c act hk, Sem.run_bind, hrun _ _ _ _ hm, Result.andThen_ok, Sem.run_pure, add_plain]
      cases hl : lk id H with
      | none => simp only [hl] at hb; exact plain hb
      | some blk =>
        cases blk with
        | rows n' size' cell =>
          simp only [hl] at hb
          cases h1 : Nat.beq size size' with
          | false => simp [h1] at hb
          | true =>
            cases h2 : Nat.beq q 0 with
            | false => simp [h1, h2] at hb
            | true =>
              obtain rfl := Nat.eq_of_beq_eq_true h1
              obtain rfl := Nat.eq_of_beq_eq_true h2
              simp only [h1, h2] at hb
              obtain ⟨m, rfl, hm, hb⟩ := hb
              refine ⟨_, none, hb, fun c act hk _ => ?_⟩
              have hr := hra c act (hk.sub fun t ht => by simp [ht])
              simp only [RelV] at hr ⊢
              obtain ⟨bl, hl, e1⟩ := hr
              refine ⟨.pointer (some ⟨bl, m * size + 0, none⟩), ?_, bl, hl, rfl⟩
              simp only [execOp, ho, e1, eb c act hk, Sem.run_bind, hrun _ _ _ _ hm, Result.andThen_ok, Sem.run_pure, add_plain, Nat.zero_add, Nat.add_zero]
        | lit cs => simp only [hl] at hb; exact plain hb
        | dead => simp only [hl] at hb; exact plain hb
    | pr id size' i' j =>
      obtain ⟨m, rfl, hm, hb⟩ := hb
      refine ⟨_, none, hb, fun c act hk _ => ?_⟩
      have hr := hra c act (hk.sub fun t ht => by simp [ht])
      simp only [RelV] at hr ⊢
      obtain ⟨bl, hl, e1⟩ := hr
      refine ⟨.pointer (some ⟨bl, i' * size' + (j + m * size), none⟩), ?_, bl, hl, rfl⟩
      simp only [execOp, ho, e1, eb c act hk, Sem.run_bind, hrun _ _ _ _ hm, Result.andThen_ok, Sem.run_pure, add_plain, Nat.add_assoc]
    | fe size' cell j =>
      obtain ⟨m, rfl, hm, hlt, hb⟩ := hb
      refine ⟨_, none, hb, fun c act hk _ => ?_⟩
      have hr := hra c act (hk.sub fun t ht => by simp [ht])
      simp only [RelV] at hr ⊢
      obtain ⟨ad, e1, hI, hc⟩ := hr
      refine ⟨.pointer (some (ad.add (m * size))), ?_, ad.add (m * size), rfl, by rw [block_of_add]; exact hI, fun r hr => ?_⟩
      · simp only [execOp, ho, e1, eb c act hk, Sem.run_bind, hrun _ _ _ _ hm, Result.andThen_ok, Sem.run_pure]
      · rw [add_of_add, Nat.add_assoc]
        exact hc _ (by omega)
    | _ => exact hb.elim
  | _ => exact hb.elim

theorem lop_idxS {ox oi : Operand} {x i : X} {t : TypeId} (ho : o.op = .index t ox oi) (ht : P.underlying t = some .string) (hx : convX ox = some x) (hi : convX oi = some i)
    (h : lop env H (.idxS x i) K) : ∃ v tch, K v tch ∧ Ylds P o (x.tmps ++ i.tmps) env H v tch := by
  obtain ⟨a, ha, hra⟩ := gx_sound hx h
  obtain ⟨b, hb, hrb⟩ := gx_sound hi ha
  cases a with
  | s s =>
    cases b with
    | i k z =>
      obtain ⟨m, rfl, hm, hb⟩ := hb
      refine ⟨_, none, hb, fun c act hk _ => ⟨.int .u8 ((s[m]'hm).toNat : Int), ?_, by simp [RelV]⟩⟩
      have e1 : act.eval ox = .string s := by simpa [RelV] using hra c act (hk.sub fun t ht => by simp [ht])
      have e2 : act.eval oi = .int k m := by simpa [RelV] using hrb c act (hk.sub fun t ht => by simp [ht])
      have : s[m]? = some (s[m]'hm) := by simp [hm]
      simp [execOp, ho, e1, e2, Instr.index, asIntOf, run_underlying ht, hm]
    | _ => exact hb.elim
  | _ => cases b <;> exact hb.elim

theorem lop_lenS {ox : Operand} {x : X} {t : TypeId} (ho : o.op = .call { callee := .builtin .len, args := #[ox], argTypes := #[t] }) (ht : P.underlying t = some .string) (hx : convX ox = some x)
    (h : lop env H (.len true x) K) : ∃ v tch, K v tch ∧ Ylds P o x.tmps env H v tch := by
  obtain ⟨a, ha, hra⟩ := gx_sound hx h
  cases a with
  | s s =>
    refine ⟨_, none, ha, fun c act hk _ => ⟨.int .i64 (s.size : Int), ?_, by simp [RelV]⟩⟩
    have e : act.eval ox = .string s := by simpa [RelV] using hra c act hk
    simp [execOp, ho, resolve, invoke, builtin, Builtin.len_, e, run_underlying ht, goInt]
  | _ => exact ha.elim

theorem lop_lenL {ox : Operand} {x : X} {t el : TypeId} (ho : o.op = .call { callee := .builtin .len, args := #[ox], argTypes := #[t] }) (ht : tSlice P t = some el) (hx : convX ox = some x)
    (h : lop env H (.len false x) K) : ∃ v tch, K v tch ∧ Ylds P o x.tmps env H v tch := by
  obtain ⟨a, ha, hra⟩ := gx_sound hx h
  have done : ∀ (n : Nat), K (.i .i64 (n : Int)) none → (∀ (c : Cx) u, RelV c a u → ∃ A cap, u = .slice A n cap) → ∃ v tch, K v tch ∧ Ylds P o x.tmps env H v tch := by
    intro n hk hs
    refine ⟨_, none, hk, fun c act hkn _ => ⟨.int .i64 (n : Int), ?_, by simp [RelV]⟩⟩
    obtain ⟨A, cap, e⟩ := hs c _ (hra c act hkn)
    simp [execOp, ho, resolve, invoke, builtin, Builtin.len_, e, run_underlying (tSlice_spec ht), goInt]
  cases a with
  | fs n size cell => exact done n ha fun c u hu => by simp only [RelV] at hu; obtain ⟨A, cap, e, _⟩ := hu; exact ⟨A, cap, e⟩
  | nils => exact done 0 ha fun c u hu => by simp only [RelV] at hu; exact ⟨none, 0, hu⟩
  | sl id size st n =>
    exact done n ha fun c u hu => by
      simp only [RelV] at hu
      rcases hu with ⟨rfl, e⟩ | ⟨b, cap, off, _, e, _⟩
      · exact ⟨none, 0, e⟩
      · exact ⟨_, cap, e⟩
  | sa id size st n => exact done n ha fun c u hu => by simp only [RelV] at hu; obtain ⟨b, cap, off, _, e, _⟩ := hu; exact ⟨_, cap, e⟩
  | sk id size st n cap => exact done n ha fun c u hu => by simp only [RelV] at hu; obtain ⟨b, off, _, e, _⟩ := hu; exact ⟨_, cap, e⟩
  | _ => exact ha.elim

def convXo : Option Operand → Option (Option X)
  | none => some none
  | some o => (convX o).map some
def tmpsO : Option X → List Nat
  | none => []
  | some x => x.tmps

theorem part_sound {n : Nat} {lo hi : Option X} {olo ohi : Option Operand} {K' : Nat → Nat → Prop} (hl : convXo olo = some lo) (hh : convXo ohi = some hi) (h : Go.Hb.part env n lo hi K') :
    ∃ l u : Nat, l ≤ u ∧ u ≤ n ∧ K' l u ∧ ∀ (c : Cx) (act : Act), Known c env act.tmps (tmpsO lo ++ tmpsO hi) → ∀ (isSlice : Bool) (cap : Nat) (w : World), n ≤ cap →
      (Instr.sliceBounds isSlice n cap (olo.map act.eval) (ohi.map act.eval) none).run P w = .ok (l, u, cap) w := by
  have sb : ∀ (k : IntKind) (m y : Nat) (code : BoundsCode) (w : World), m ≤ y → (Instr.sliceBound (.int k (m : Int)) y code).run P w = .ok m w := by
    intro k m y code w hm
    simp [Instr.sliceBound, asIntOf, hm]
  cases olo with
  | none =>
    simp only [convXo, Option.some.injEq] at hl
    subst hl
    cases ohi with
    | none =>
      simp only [convXo, Option.some.injEq] at hh
      subst hh
      exact ⟨0, n, Nat.zero_le _, Nat.le_refl _, h, fun c act _ isS cap w _ => by simp [Instr.sliceBounds]⟩
    | some oh =>
      simp only [convXo, Option.map_eq_some_iff] at hh
      obtain ⟨xh, hxh, rfl⟩ := hh
      obtain ⟨v, hv, hr⟩ := gx_sound hxh h
      cases v with
      | i k z =>
        obtain ⟨u, rfl, hu, hK⟩ := hv
        refine ⟨0, u, Nat.zero_le _, hu, hK, fun c act hk isS cap w hc => ?_⟩
        have e : act.eval oh = .int k u := by simpa [RelV] using hr c act (hk.sub fun t ht => by simp [tmpsO, ht])
        simp [Instr.sliceBounds, e, sb _ _ _ _ _ (show u ≤ cap by omega)]
      | _ => exact hv.elim
  | some ol =>
    simp only [convXo, Option.map_eq_some_iff] at hl
    obtain ⟨xl, hxl, rfl⟩ := hl
    cases ohi with
    | none =>
      simp only [convXo, Option.some.injEq] at hh
      subst hh
      obtain ⟨v, hv, hr⟩ := gx_sound hxl h
      cases v with
      | i k z =>
        obtain ⟨l, rfl, hl, hK⟩ := hv
        refine ⟨l, n, hl, Nat.le_refl _, hK, fun c act hk isS cap w hc => ?_⟩
        have e : act.eval ol = .int k l := by simpa [RelV] using hr c act (hk.sub fun t ht => by simp [tmpsO, ht])
        simp [Instr.sliceBounds, e, sb _ _ _ _ _ hl]
      | _ => exact hv.elim
    | some oh =>
      simp only [convXo, Option.map_eq_some_iff] at hh
      obtain ⟨xh, hxh, rfl⟩ := hh
      obtain ⟨v, hv, hr⟩ := gx_sound hxl h
      obtain ⟨v', hv', hr'⟩ := gx_sound hxh hv
      cases v with
      | i k z =>
        cases v' with
        | i k' z' =>
          obtain ⟨l, u, rfl, rfl, hlu, hun, hK⟩ := hv'
          refine ⟨l, u, hlu, hun, hK, fun c act hk isS cap w hc => ?_⟩
          have e : act.eval ol = .int k l := by simpa [RelV] using hr c act (hk.sub fun t ht => by simp [tmpsO, ht])
          have e' : act.eval oh = .int k' u := by simpa [RelV] using hr' c act (hk.sub fun t ht => by simp [tmpsO, ht])
          simp [Instr.sliceBounds, e, e', sb _ _ _ _ _ (show u ≤ cap by omega), sb _ _ _ _ _ hlu]
        | _ => exact hv'.elim
      | _ => cases v' <;> exact hv'.elim

theorem partc_sound {n cap : Nat} {lo hi : Option X} {olo ohi : Option Operand} {K' : Nat → Nat → Prop} (hnc : n ≤ cap) (hl : convXo olo = some lo) (hh : convXo ohi = some hi) (h : partc env n cap lo hi K') :
    ∃ l u : Nat, l ≤ u ∧ u ≤ cap ∧ K' l u ∧ ∀ (c : Cx) (act : Act), Known c env act.tmps (tmpsO lo ++ tmpsO hi) → ∀ (w : World),
      (Instr.sliceBounds true n cap (olo.map act.eval) (ohi.map act.eval) none).run P w = .ok (l, u, cap) w ∧
      (ohi ≠ none → ∀ (mv : Value) (big : Nat), (Instr.sliceBound mv big .slice3Acap).run P w = .ok cap w → (Instr.sliceBounds true n big (olo.map act.eval) (ohi.map act.eval) (some mv)).run P w = .ok (l, u, cap) w) := by
  have sb : ∀ (k : IntKind) (m y : Nat) (code : BoundsCode) (w : World), m ≤ y → (Instr.sliceBound (.int k (m : Int)) y code).run P w = .ok m w := by
    intro k m y code w hm
    simp [Instr.sliceBound, asIntOf, hm]
  cases olo with
  | none =>
    simp only [convXo, Option.some.injEq] at hl
    subst hl
    cases ohi with
    | none =>
      simp only [convXo, Option.some.injEq] at hh
      subst hh
      exact ⟨0, n, Nat.zero_le _, hnc, h, fun c act _ w => ⟨by simp [Instr.sliceBounds], fun h => absurd rfl h⟩⟩
    | some oh =>
      simp only [convXo, Option.map_eq_some_iff] at hh
      obtain ⟨xh, hxh, rfl⟩ := hh
      obtain ⟨v, hv, hr⟩ := gx_sound hxh h
      cases v with
      | i k z =>
        obtain ⟨u, rfl, hu, hK⟩ := hv
        refine ⟨0, u, Nat.zero_le _, hu, hK, fun c act hk w => ?_⟩
        have e : act.eval oh = .int k u := by simpa [RelV] using hr c act (hk.sub fun t ht => by simp [tmpsO, ht])
        exact ⟨by simp [Instr.sliceBounds, e, sb _ _ _ _ _ hu], fun _ mv big hm => by simp [Instr.sliceBounds, e, hm, sb _ _ _ _ _ hu]⟩
      | _ => exact hv.elim
  | some ol =>
    simp only [convXo, Option.map_eq_some_iff] at hl
    obtain ⟨xl, hxl, rfl⟩ := hl
    cases ohi with
    | none =>
      simp only [convXo, Option.some.injEq] at hh
      subst hh
      obtain ⟨v, hv, hr⟩ := gx_sound hxl h
      cases v with
      | i k z =>
        obtain ⟨l, rfl, hl, hK⟩ := hv
        refine ⟨l, n, hl, hnc, hK, fun c act hk w => ?_⟩
        have e : act.eval ol = .int k l := by simpa [RelV] using hr c act (hk.sub fun t ht => by simp [tmpsO, ht])
        exact ⟨by simp [Instr.sliceBounds, e, sb _ _ _ _ _ hl], fun h => absurd rfl h⟩
      | _ => exact hv.elim
    | some oh =>
      simp only [convXo, Option.map_eq_some_iff] at hh
      obtain ⟨xh, hxh, rfl⟩ := hh
      obtain ⟨v, hv, hr⟩ := gx_sound hxl h
      obtain ⟨v', hv', hr'⟩ := gx_sound hxh hv
      cases v with
      | i k z =>
        cases v' with
        | i k' z' =>
          obtain ⟨l, u, rfl, rfl, hlu, hun, hK⟩ := hv'
          refine ⟨l, u, hlu, hun, hK, fun c act hk w => ?_⟩
          have e : act.eval ol = .int k l := by simpa [RelV] using hr c act (hk.sub fun t ht => by simp [tmpsO, ht])
          have e' : act.eval oh = .int k' u := by simpa [RelV] using hr' c act (hk.sub fun t ht => by simp [tmpsO, ht])
          exact ⟨by simp [Instr.sliceBounds, e, e', sb _ _ _ _ _ hun, sb _ _ _ _ _ hlu], fun _ mv big hm => by simp [Instr.sliceBounds, e, e', hm, sb _ _ _ _ _ hun, sb _ _ _ _ _ hlu]⟩
        | _ => exact hv'.elim
      | _ => cases v' <;> exact hv'.elim

theorem partc_some {n cap : Nat} {lo hi : Option X} {K' : Nat → Nat → Prop} (h : partc env n cap lo hi K') : ∃ l u, K' l u := by
  have gxe : ∀ {x : X} {K : AV → Prop}, gx env K x → ∃ v, K v := by
    intro x K h
    cases x with
    | t n =>
      simp only [gx] at h
      cases hl : lk n env with
      | none => simp [hl] at h
      | some v => simp only [hl] at h; exact ⟨v, h⟩
    | c v => exact ⟨v, h⟩
  cases lo with
  | none =>
    cases hi with
    | none => exact ⟨_, _, h⟩
    | some hi =>
      obtain ⟨v, h⟩ := gxe h
      cases v with
      | i k z => obtain ⟨u, _, _, h⟩ := h; exact ⟨_, _, h⟩
      | _ => exact h.elim
  | some lo =>
    cases hi with
    | none =>
      obtain ⟨v, h⟩ := gxe h
      cases v with
      | i k z => obtain ⟨u, _, _, h⟩ := h; exact ⟨_, _, h⟩
      | _ => exact h.elim
    | some hi =>
      obtain ⟨v, h⟩ := gxe h
      obtain ⟨v', h⟩ := gxe h
      cases v with
      | i k z =>
        cases v' with
        | i k' z' => obtain ⟨l, u, _, _, _, _, h⟩ := h; exact ⟨_, _, h⟩
        | _ => exact h.elim
      | _ => cases v' <;> exact h.elim

theorem lop_slcS {ox : Operand} {x : X} {t : TypeId} {olo ohi : Option Operand} {lo hi : Option X} (ho : o.op = .slice t ox olo ohi none) (ht : P.underlying t = some .string) (hx : convX ox = some x) (hl : convXo olo = some lo) (hh : convXo ohi = some hi)
    (h : lop env H (.slcS x lo hi) K) : ∃ v tch, K v tch ∧ Ylds P o (x.tmps ++ (tmpsO lo ++ tmpsO hi)) env H v tch := by
  obtain ⟨a, ha, hra⟩ := gx_sound hx h
  cases a with
  | s s =>
    obtain ⟨l, u, hlu, hun, hK, hr⟩ := part_sound (P := P) hl hh ha
    refine ⟨_, none, hK, fun c act hk _ => ⟨.string (s.extract l u), ?_, by simp [RelV]⟩⟩
    have e : act.eval ox = .string s := by simpa [RelV] using hra c act (hk.sub fun t ht => by simp [ht])
    have := hr c act (hk.sub fun t ht => by simp only [List.mem_append] at ht ⊢; exact .inr ht) false s.size c.w (Nat.le_refl _)
    simp [execOp, ho, Instr.sliceAt, Instr.slice, run_underlying ht, e, this]
  | _ => exact ha.elim

theorem lop_slc {ox : Operand} {x : X} {t el : TypeId} {size : Nat} {olo ohi : Option Operand} {lo hi : Option X} (ho : o.op = .slice t ox olo ohi none) (ht : tSlice P t = some el) (hs : tSize P el = some size) (hx : convX ox = some x) (hl : convXo olo = some lo) (hh : convXo ohi = some hi)
    (h : lop env H (.slc size x lo hi) K) : ∃ v tch, K v tch ∧ Ylds P o (x.tmps ++ (tmpsO lo ++ tmpsO hi)) env H v tch := by
  obtain ⟨a, ha, hra⟩ := gx_sound hx h
  have hu := tSlice_spec ht
  have hrun : ∀ (c : Cx) (act : Act) (A : Option Addr) (n cap l u : Nat), act.eval ox = .slice A n cap → (Instr.sliceBounds true n cap (olo.map act.eval) (ohi.map act.eval) none).run P c.w = .ok (l, u, cap) c.w →
      (execOp act.eval o).run P c.w = .ok (.value (.slice (if cap = l then A else A.map (·.add (l * size))) (u - l) (cap - l))) c.w := by
    intro c act A n cap l u e hb
    simp [execOp, ho, Instr.sliceAt, Instr.slice, run_underlying hu, e, hb, sizeOf_run hs]
  cases a with
  | fs n size' cell =>
    simp only at ha
    cases hq : Nat.beq size size' with
    | false => simp [hq] at ha
    | true =>
      obtain rfl := Nat.eq_of_beq_eq_true hq
      simp only [hq] at ha
      obtain ⟨l, u, hlu, hun, hK, hr⟩ := part_sound (P := P) hl hh ha
      refine ⟨_, none, hK, fun c act hk _ => ?_⟩
      have hrel := hra c act (hk.sub fun t ht => by simp [ht])
      simp only [RelV] at hrel ⊢
      obtain ⟨A, cap, e, hcap, hc⟩ := hrel
      have hb := hr c act (hk.sub fun t ht => by simp only [List.mem_append] at ht ⊢; exact .inr ht) true cap c.w hcap
      refine ⟨_, hrun c act A n cap l u e hb, _, _, rfl, by omega, fun hne => ?_⟩
      rw [if_neg (by omega)]
      obtain ⟨ad, rfl, hI, hcell⟩ := hc (by omega)
      refine ⟨ad.add (l * size), rfl, by rw [block_of_add]; exact hI, fun i j hi hj => ?_⟩
      rw [add_of_add]
      have := hcell (l + i) j (by omega) hj
      rwa [Nat.add_mul, Nat.add_assoc] at this
  | sl id size' start n =>
    simp only at ha
    cases hq : Nat.beq size size' with
    | false => simp [hq] at ha
    | true =>
      obtain rfl := Nat.eq_of_beq_eq_true hq
      simp only [hq] at ha
      obtain ⟨l, u, hlu, hun, hK, hr⟩ := part_sound (P := P) hl hh ha
      refine ⟨_, none, hK, fun c act hk _ => ?_⟩
      have hrel := hra c act (hk.sub fun t ht => by simp [ht])
      simp only [RelV] at hrel ⊢
      rcases hrel with ⟨rfl, e⟩ | ⟨b, cap, off, hloc, e, hcap, hoff, cs, ty, fr, hheap, hsz⟩
      · have hb := hr c act (hk.sub fun t ht => by simp only [List.mem_append] at ht ⊢; exact .inr ht) true 0 c.w (Nat.le_refl _)
        obtain rfl : u = 0 := by omega
        obtain rfl : l = 0 := by omega
        exact ⟨_, hrun c act none 0 0 0 0 e hb, by simp⟩
      have hb := hr c act (hk.sub fun t ht => by simp only [List.mem_append] at ht ⊢; exact .inr ht) true cap c.w hcap
      refine ⟨_, hrun c act _ n cap l u e hb, .inr ⟨b, cap - l, if cap = l then off else off + l * size, hloc, ?_, by omega, fun hne => ?_, cs, ty, fr, hheap, ?_⟩⟩
      · by_cases hcl : cap = l
        · simp [hcl]
        · simp [hcl, add_plain]
      · rw [if_neg (by omega), hoff (by omega), Nat.add_mul]
      · rw [show start + l + (cap - l) = start + cap by omega]; exact hsz
  | sa id size' start n =>
    simp only at ha
    cases hq : Nat.beq size size' with
    | false => simp [hq] at ha
    | true =>
      obtain rfl := Nat.eq_of_beq_eq_true hq
      simp only [hq] at ha
      obtain ⟨l, u, hlu, hun, hK, hr⟩ := part_sound (P := P) hl hh ha
      refine ⟨_, none, hK, fun c act hk _ => ?_⟩
      have hrel := hra c act (hk.sub fun t ht => by simp [ht])
      simp only [RelV] at hrel ⊢
      obtain ⟨b, cap, off, hloc, e, hcap, hoff, cs, ty, fr, hheap, hsz⟩ := hrel
      have hb := hr c act (hk.sub fun t ht => by simp only [List.mem_append] at ht ⊢; exact .inr ht) true cap c.w hcap
      refine ⟨_, hrun c act _ n cap l u e hb, b, cap - l, if cap = l then off else off + l * size, hloc, ?_, by omega, fun hne => ?_, cs, ty, fr, hheap, ?_⟩
      · by_cases hcl : cap = l
        · simp [hcl]
        · simp [hcl, add_plain]
      · rw [if_neg (by omega), hoff (by omega)]
      · have : l * size + (cap - l) * size = cap * size := by rw [← Nat.add_mul]; congr 1; omega
        omega
  | sk id size' start n cap =>
    simp only at ha
    cases hq : Nat.beq size size' with
    | false => simp [hq] at ha
    | true =>
      obtain rfl := Nat.eq_of_beq_eq_true hq
      simp only [hq] at ha
      by_cases hnc : n ≤ cap
      · obtain ⟨l, u, hlu, hun, hK, hr⟩ := partc_sound (P := P) hnc hl hh ha
        refine ⟨_, none, hK, fun c act hk _ => ?_⟩
        have hrel := hra c act (hk.sub fun t ht => by simp [ht])
        simp only [RelV] at hrel ⊢
        obtain ⟨b, off, hloc, e, hcap, hoff, cs, ty, fr, hheap, hsz⟩ := hrel
        have hb := (hr c act (hk.sub fun t ht => by simp only [List.mem_append] at ht ⊢; exact .inr ht) c.w).1
        refine ⟨_, hrun c act _ n cap l u e hb, b, if cap = l then off else off + l * size, hloc, ?_, by omega, fun hne => ?_, cs, ty, fr, hheap, ?_⟩
        · by_cases hcl : cap = l
          · simp [hcl]
          · simp [hcl, add_plain]
        · rw [if_neg (by omega), hoff (by omega), Nat.add_mul]
        · rw [show start + l + (cap - l) = start + cap by omega]; exact hsz
      · -- there is no such slice
        obtain ⟨l, u, hK⟩ := partc_some ha
        refine ⟨_, none, hK, fun c act hk _ => ?_⟩
        have hrel := hra c act (hk.sub fun t ht => by simp [ht])
        simp only [RelV] at hrel
        obtain ⟨b, off, hloc, e, hcap, _⟩ := hrel
        exact absurd hcap hnc
  | nils =>
    obtain ⟨l, u, hlu, hun, hK, hr⟩ := part_sound (P := P) hl hh ha
    refine ⟨_, none, hK, fun c act hk _ => ?_⟩
    have hrel := hra c act (hk.sub fun t ht => by simp [ht])
    simp only [RelV] at hrel ⊢
    have hb := hr c act (hk.sub fun t ht => by simp only [List.mem_append] at ht ⊢; exact .inr ht) true 0 c.w (Nat.le_refl _)
    obtain rfl : u = 0 := by omega
    obtain rfl : l = 0 := by omega
    exact ⟨_, hrun c act none 0 0 0 0 hrel hb, by simp⟩
  | _ => exact ha.elim

theorem lop_slcA {ox : Operand} {x : X} {t el : TypeId} {size n : Nat} {olo ohi : Option Operand} {lo hi : Option X} (ho : o.op = .slice t ox olo ohi none) (ht : tArray P t = some (n, el)) (hs : tSize P el = some size) (hx : convX ox = some x) (hl : convXo olo = some lo) (hh : convXo ohi = some hi)
    (h : lop env H (.slcA n size x lo hi) K) : ∃ v tch, K v tch ∧ Ylds P o (x.tmps ++ (tmpsO lo ++ tmpsO hi)) env H v tch := by
  obtain ⟨a, ha, hra⟩ := gx_sound hx h
  have hu := tArray_spec ht
  have hrun : ∀ (c : Cx) (act : Act) (A : Addr) (l u : Nat), act.eval ox = .pointer (some A) → (Instr.sliceBounds false n n (olo.map act.eval) (ohi.map act.eval) none).run P c.w = .ok (l, u, n) c.w →
      (execOp act.eval o).run P c.w = .ok (.value (.slice (some (if n = l then A else A.add (l * size))) (u - l) (n - l))) c.w := by
    intro c act A l u e hb
    simp [execOp, ho, Instr.sliceAt, Instr.sureAddr, run_underlying hu, e, hb, sizeOf_run hs]
  cases a with
  | p id k =>
    simp only at ha
    cases hl' : lk id H with
    | none => simp [hl'] at ha
    | some blk =>
      cases blk with
      | rows n' size' cell =>
        simp only [hl'] at ha
        cases h1 : Nat.beq size size' with
        | false => simp [h1] at ha
        | true =>
          cases h2 : Nat.beq k 0 with
          | false => simp [h1, h2] at ha
          | true =>
            cases h3 : Nat.beq n n' with
            | false => simp [h1, h2, h3] at ha
            | true =>
              obtain rfl := Nat.eq_of_beq_eq_true h1
              obtain rfl := Nat.eq_of_beq_eq_true h2
              obtain rfl := Nat.eq_of_beq_eq_true h3
              simp only [h1, h2, h3] at ha
              obtain ⟨l, u, hlu, hun, hK, hr⟩ := part_sound (P := P) hl hh ha
              refine ⟨_, some id, hK, fun c act hk htc => ?_⟩
              have hrel := hra c act (hk.sub fun t ht => by simp [ht])
              simp only [RelV] at hrel ⊢
              obtain ⟨b, hloc, e⟩ := hrel
              have e3 := htc id rfl _ _ hl' hloc
              obtain ⟨arr, ty, fr, hheap, _, hsz, _⟩ := e3
              have hb := hr c act (hk.sub fun t ht => by simp only [List.mem_append] at ht ⊢; exact .inr ht) false n c.w (Nat.le_refl _)
              refine ⟨_, hrun c act _ l u e hb, .inr ⟨b, n - l, if n = l then 0 else l * size, hloc, ?_, by omega, fun hne => ?_, arr, ty, fr, hheap, ?_⟩⟩
              · by_cases hcl : n = l
                · simp [hcl]
                · simp [hcl, add_plain]
              · rw [if_neg (by omega)]
              · rw [show l + (n - l) = n by omega]; exact hsz
      | lit cs =>
        simp only [hl'] at ha
        cases h1 : Nat.ble (k + n * size) cs.length with
        | false => simp [h1] at ha
        | true =>
          have hle := Nat.le_of_ble_eq_true h1
          simp only [h1] at ha
          obtain ⟨l, u, hlu, hun, hK, hr⟩ := part_sound (P := P) hl hh ha
          refine ⟨_, some id, hK, fun c act hk htc => ?_⟩
          have hrel := hra c act (hk.sub fun t ht => by simp [ht])
          simp only [RelV] at hrel ⊢
          obtain ⟨b, hloc, e⟩ := hrel
          have e3 := htc id rfl _ _ hl' hloc
          obtain ⟨arr, ty, fr, hheap, _, hrl⟩ := e3
          have hsz : arr.size = cs.length := by simpa using RelVs_length hrl
          have hb := hr c act (hk.sub fun t ht => by simp only [List.mem_append] at ht ⊢; exact .inr ht) false n c.w (Nat.le_refl _)
          refine ⟨_, hrun c act _ l u e hb, b, n - l, if n = l then k else k + l * size, hloc, ?_, by omega, fun hne => ?_, arr, ty, fr, hheap, ?_⟩
          · by_cases hcl : n = l
            · simp [hcl]
            · simp [hcl, add_plain]
          · rw [if_neg (by omega)]
          · have : l * size + (n - l) * size = n * size := by rw [← Nat.add_mul]; congr 1; omega
            omega
      | dead => simp [hl'] at ha
  | fe size' cell j =>
    simp only at ha
    cases h1 : Nat.ble (j + n * size) size' with
    | false => simp [h1] at ha
    | true =>
      have hle := Nat.le_of_ble_eq_true h1
      simp only [h1] at ha
      obtain ⟨l, u, hlu, hun, hK, hr⟩ := part_sound (P := P) hl hh ha
      refine ⟨_, none, hK, fun c act hk _ => ?_⟩
      have hrel := hra c act (hk.sub fun t ht => by simp [ht])
      simp only [RelV] at hrel ⊢
      obtain ⟨ad, e, hI, hc⟩ := hrel
      have hb := hr c act (hk.sub fun t ht => by simp only [List.mem_append] at ht ⊢; exact .inr ht) false n c.w (Nat.le_refl _)
      refine ⟨_, hrun c act _ l u e hb, _, _, rfl, by omega, fun hne => ?_⟩
      rw [if_neg (by omega)]
      refine ⟨_, rfl, by rw [block_of_add]; exact hI, fun i q hi hq => ?_⟩
      rw [add_of_add]
      have hlt : (l + i) * size + q < n * size := by
        have : (l + i + 1) * size ≤ n * size := Nat.mul_le_mul_right _ (by omega)
        rw [Nat.add_mul, Nat.one_mul] at this
        omega
      have this := hc ((l + i) * size + q) (by omega)
      have e1 : (l + i) * size + q = l * size + (i * size + q) := by rw [Nat.add_mul]; omega
      have e2 : j + (l + i) * size + q = j + (l * size + (i * size + q)) := by omega
      show ∃ u, _ ∧ RelC c.w c.I (cell (j + (l + i) * size + q)) u
      rw [e2]
      rw [e1] at this
      exact this
  | _ => exact ha.elim

theorem lop_mkfn {f : Fn} {ofst ocap : Array Operand} {first caps : List X} (ho : o.op = .makeFunc f ofst ocap) (hf : convXs ofst.toList = some first) (hc : convXs ocap.toList = some caps)
    (h : lop env H (.mkfn f first caps) K) : ∃ v tch, K v tch ∧ Ylds P o (tmpsOf first ++ tmpsOf caps) env H v tch := by
  obtain ⟨a, ha, hra⟩ := gxs_sound hf h
  obtain ⟨b, hb, hrb⟩ := gxs_sound hc ha
  refine ⟨_, none, hb, fun c act hk _ => ?_⟩
  have h1 := hra c act (hk.sub fun t ht => by simp [ht])
  have h2 := hrb c act (hk.sub fun t ht => by simp [ht])
  refine ⟨.func f (ofst.map act.eval) (ocap.map act.eval), ?_, ?_⟩
  · simp [execOp, ho, Instr.makeFunc]
  · simp only [RelV]
    exact ⟨_, _, rfl, by simpa using h1, by simpa using h2⟩

theorem lop_nilck {ox : Operand} {x : X} (ho : o.op = .nilCheck ox) (hx : convX ox = some x)
    (h : lop env H (.nilck x) K) : ∃ v tch, K v tch ∧ Ylds P o x.tmps env H v tch := by
  obtain ⟨a, ha, hra⟩ := gx_sound hx h
  have done : K a none → (∀ (c : Cx) u, RelV c a u → (∃ ad, u = .pointer (some ad)) ∨ (∃ g x y, u = .func (.func g) x y)) → ∃ v tch, K v tch ∧ Ylds P o x.tmps env H v tch := by
    intro hk hs
    refine ⟨_, none, hk, fun c act hkn _ => ⟨act.eval ox, ?_, hra c act hkn⟩⟩
    rcases hs c _ (hra c act hkn) with ⟨ad, e⟩ | ⟨g, x, y, e⟩ <;> simp [execOp, ho, e]
  cases a with
  | p id k => exact done ha fun c u hu => by simp only [RelV] at hu; obtain ⟨b, _, e⟩ := hu; exact .inl ⟨_, e⟩
  | pr id size i j => exact done ha fun c u hu => by simp only [RelV] at hu; obtain ⟨b, _, e⟩ := hu; exact .inl ⟨_, e⟩
  | fe size cell j => exact done ha fun c u hu => by simp only [RelV] at hu; obtain ⟨b, e, _⟩ := hu; exact .inl ⟨_, e⟩
  | fn f a b =>
    cases f with
    | func g => exact done ha fun c u hu => by simp only [RelV] at hu; obtain ⟨x, y, e, _⟩ := hu; exact .inr ⟨_, _, _, e⟩
    | _ => exact ha.elim
  | _ => exact ha.elim

end
end Go.Hb

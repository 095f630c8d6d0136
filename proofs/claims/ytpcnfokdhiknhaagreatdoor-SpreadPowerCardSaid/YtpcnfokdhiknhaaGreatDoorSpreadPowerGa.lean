/-
  Parts of the proof: no statement of the seat is proved here.
-/
import Derived.Calls
import Derived.Laws.World
import Derived.Laws.Sem
import Derived.Below
import Derived.Laws.Entries
import Derived.Laws.Bits
import Derived.Laws.Cells
import Derived.ChangeKeysEq
import Derived.Laws.BytesArg
import Derived.Laws.Append
import Derived.Laws.MakeOwn
set_option linter.unusedSimpArgs false
set_option linter.unusedVariables false
set_option linter.unusedSectionVars false

namespace Go.Hb
open Go.RowKit

/-- Data at rest: one cell's worth; slices bear what they read. -/
inductive CV where
  | b (x : Bool)
  | i (k : IntKind) (n : Int)
  | s (x : ByteArray)
  | raw (v : Value)
  | fs (n size : Nat) (cell : Nat → Nat → CV)

inductive AV where
  | tt | ff
  | b (x : Bool)
  | i (k : IntKind) (n : Int)
  | s (x : ByteArray)
  | raw (v : Value)
  | fs (n size : Nat) (cell : Nat → Nat → CV)
  | nils
  | fe (size : Nat) (cell : Nat → CV) (j : Nat)
  | p (id k : Nat)
  | pr (id size i j : Nat)
  | sl (id size start len : Nat)
  | sa (id size off len : Nat)
  | sk (id size start len cap : Nat)
  | agg (xs : List AV)
  | tup (xs : List AV)
  | fn (f : Fn) (first caps : List AV)

inductive Blk where
  | lit (cs : List AV)
  | rows (n size : Nat) (cell : Nat → Nat → CV)
  | dead

def CV.up : CV → AV
  | .b x => .b x
  | .i k n => .i k n
  | .s x => .s x
  | .raw v => .raw v
  | .fs n size cell => .fs n size cell

def AV.cells : AV → List AV
  | .agg xs => xs
  | a => [a]

/-- Where we stand: the world; the blocks that nobody writes any more; which block an id is. -/
structure Cx where
  w : World
  I : Nat → Prop
  loc : Nat → Option Nat

def RelC (w : World) (I : Nat → Prop) : CV → Value → Prop
  | .b x, v => v = .bool x
  | .i k n, v => v = .int k n
  | .s x, v => v = .string x
  | .raw u, v => v = u ∧ u.oneCell' = true
  | .fs n size cell, v => ∃ A cap, v = .slice A n cap ∧ n ≤ cap ∧
      (n ≠ 0 → ∃ ad, A = some ad ∧ I ad.block ∧ ∀ i j, i < n → j < size → ∃ u, w.cell? (ad.add (i * size + j)) = some u ∧ RelC w I (cell i j) u)

mutual
def RelV (x : Cx) : AV → Value → Prop
  | .tt, v => v = .bool true
  | .ff, v => v = .bool false
  | .b y, v => v = .bool y
  | .i k n, v => v = .int k n
  | .s y, v => v = .string y
  | .raw u, v => v = u ∧ u.oneCell' = true
  | .fs n size cell, v => RelC x.w x.I (.fs n size cell) v
  | .nils, v => v = .slice none 0 0
  | .fe size cell j, v => ∃ ad, v = .pointer (some ad) ∧ x.I ad.block ∧ ∀ k, j + k < size → ∃ u, x.w.cell? (ad.add k) = some u ∧ RelC x.w x.I (cell (j + k)) u
  | .p id k, v => ∃ b, x.loc id = some b ∧ v = .pointer (some ⟨b, k, none⟩)
  | .pr id size i j, v => ∃ b, x.loc id = some b ∧ v = .pointer (some ⟨b, i * size + j, none⟩)
  | .sl id size start len, v => (len = 0 ∧ v = .slice none 0 0) ∨ ∃ b cap o, x.loc id = some b ∧ v = .slice (some ⟨b, o, none⟩) len cap ∧ len ≤ cap ∧ (cap ≠ 0 → o = start * size) ∧
      ∃ cs ty fr, x.w.heap[b]? = some (.cells cs ty fr) ∧ (start + cap) * size ≤ cs.size
  | .sa id size off len, v => ∃ b cap o, x.loc id = some b ∧ v = .slice (some ⟨b, o, none⟩) len cap ∧ len ≤ cap ∧ (cap ≠ 0 → o = off) ∧
      ∃ cs ty fr, x.w.heap[b]? = some (.cells cs ty fr) ∧ off + cap * size ≤ cs.size
  | .sk id size start len cap, v => ∃ b o, x.loc id = some b ∧ v = .slice (some ⟨b, o, none⟩) len cap ∧ len ≤ cap ∧ (cap ≠ 0 → o = start * size) ∧
      ∃ cs ty fr, x.w.heap[b]? = some (.cells cs ty fr) ∧ (start + cap) * size ≤ cs.size
  | .agg xs, v => ∃ vs, v = .agg vs ∧ RelVs x xs vs.toList
  | .tup xs, v => ∃ vs, v = .tuple vs ∧ RelVs x xs vs.toList
  | .fn f first caps, v => ∃ a c, v = .func f a c ∧ RelVs x first a.toList ∧ RelVs x caps c.toList
def RelVs (x : Cx) : List AV → List Value → Prop
  | [], [] => True
  | a :: as, v :: vs => RelV x a v ∧ RelVs x as vs
  | _, _ => False
end

theorem RelVs_nil {x : Cx} : RelVs x [] [] := by simp [RelVs]
theorem RelVs_cons {x : Cx} {a : AV} {as : List AV} {v : Value} {vs : List Value} : RelVs x (a :: as) (v :: vs) ↔ RelV x a v ∧ RelVs x as vs := by simp [RelVs]
theorem RelVs_length {x : Cx} : ∀ {as : List AV} {vs : List Value}, RelVs x as vs → vs.length = as.length
  | [], [], _ => rfl
  | [], _ :: _, h => by simp [RelVs] at h
  | _ :: _, [], h => by simp [RelVs] at h
  | a :: as, v :: vs, h => by
    simp only [RelVs] at h
    simp [RelVs_length h.2]
theorem RelVs_get {x : Cx} : ∀ {as : List AV} {vs : List Value}, RelVs x as vs → ∀ (i : Nat) (a : AV), as[i]? = some a → ∃ v, vs[i]? = some v ∧ RelV x a v
  | [], _, _, i, a, hi => by simp at hi
  | _ :: _, [], h, _, _, _ => by simp [RelVs] at h
  | a :: as, v :: vs, h, 0, b, hb => by
    simp only [RelVs] at h
    simp at hb
    subst hb
    exact ⟨v, rfl, h.1⟩
  | a :: as, v :: vs, h, i + 1, b, hb => by
    simp only [RelVs] at h
    simp at hb
    simpa using RelVs_get h.2 i b hb
theorem RelVs_append {x : Cx} : ∀ {as bs : List AV} {vs us : List Value}, RelVs x as vs → RelVs x bs us → RelVs x (as ++ bs) (vs ++ us)
  | [], _, [], _, _, k => by simpa using k
  | [], _, _ :: _, _, h, _ => by simp [RelVs] at h
  | _ :: _, _, [], _, h, _ => by simp [RelVs] at h
  | a :: as, _, v :: vs, _, h, k => by
    simp only [RelVs] at h
    simp only [List.cons_append, RelVs]
    exact ⟨h.1, RelVs_append h.2 k⟩

/-- From one place to a later one. -/
structure Ext (x y : Cx) : Prop where
  loc : ∀ id b, x.loc id = some b → y.loc id = some b
  sub : ∀ k, x.I k → y.I k
  kept : ∀ k, x.I k → y.w.heap[k]? = x.w.heap[k]?
  size : x.w.heap.size ≤ y.w.heap.size
  rows : ∀ (k : Nat) (cs : Array Value) (ty : TypeId) (fr : Nat × Nat), x.w.heap[k]? = some (Obj.cells cs ty fr) → ∃ (cs' : Array Value) (fr' : Nat × Nat), y.w.heap[k]? = some (Obj.cells cs' ty fr') ∧ cs'.size = cs.size

theorem Ext.refl (x : Cx) : Ext x x := ⟨fun _ _ h => h, fun _ h => h, fun _ _ => rfl, Nat.le_refl _, fun _ cs _ fr h => ⟨cs, fr, h, rfl⟩⟩
theorem Ext.trans {x y z : Cx} (h : Ext x y) (k : Ext y z) : Ext x z :=
  ⟨fun id b e => k.loc id b (h.loc id b e), fun i hi => k.sub i (h.sub i hi), fun i hi => (k.kept i (h.sub i hi)).trans (h.kept i hi), Nat.le_trans h.size k.size,
   fun i cs ty fr e => by
    obtain ⟨cs', fr', e', s'⟩ := h.rows i cs ty fr e
    obtain ⟨cs'', fr'', e'', s''⟩ := k.rows i cs' ty fr' e'
    exact ⟨cs'', fr'', e'', s''.trans s'⟩⟩

theorem block_of_add (a : Addr) (n : Nat) : (a.add n).block = a.block := by unfold Addr.add; split <;> rfl
theorem add_of_add (a : Addr) (i j : Nat) : (a.add i).add j = a.add (i + j) := by
  unfold Addr.add
  by_cases hi : i = 0 <;> by_cases hj : j = 0 <;> simp [hi, hj, Nat.add_assoc]
theorem add_plain (g o j : Nat) : (⟨g, o, none⟩ : Addr).add j = ⟨g, o + j, none⟩ := by unfold Addr.add; split <;> simp_all

theorem RelC.mono {w w' : World} {I I' : Nat → Prop} (hs : ∀ k, I k → I' k) (hk : ∀ k, I k → w'.heap[k]? = w.heap[k]?) : ∀ (c : CV) (v : Value), RelC w I c v → RelC w' I' c v
  | .b x, v, h => h
  | .i k n, v, h => h
  | .s x, v, h => h
  | .raw u, v, h => h
  | .fs n size cell, v, h => by
    obtain ⟨A, cap, e, hc, hr⟩ := h
    refine ⟨A, cap, e, hc, fun hn => ?_⟩
    obtain ⟨ad, ha, hi, hcell⟩ := hr hn
    refine ⟨ad, ha, hs _ hi, fun i j h1 h2 => ?_⟩
    obtain ⟨u, hu, hrel⟩ := hcell i j h1 h2
    refine ⟨u, ?_, RelC.mono hs hk _ _ hrel⟩
    rw [← hu]
    exact World.cell?_of_block (by rw [block_of_add]; exact hk _ hi)

mutual
theorem RelV.mono {x y : Cx} (h : Ext x y) : ∀ (a : AV) (v : Value), RelV x a v → RelV y a v
  | .tt, v, k => by simpa only [RelV] using k
  | .ff, v, k => by simpa only [RelV] using k
  | .b _, v, k => by simpa only [RelV] using k
  | .i _ _, v, k => by simpa only [RelV] using k
  | .s _, v, k => by simpa only [RelV] using k
  | .raw _, v, k => by simpa only [RelV] using k
  | .fs n size cell, v, k => by
    simp only [RelV] at k ⊢
    exact RelC.mono h.sub h.kept _ _ k
  | .nils, v, k => by simpa only [RelV] using k
  | .fe size cell j, v, k => by
    simp only [RelV] at k ⊢
    obtain ⟨ad, e, hi, hc⟩ := k
    refine ⟨ad, e, h.sub _ hi, fun i hj => ?_⟩
    obtain ⟨u, hu, hr⟩ := hc i hj
    exact ⟨u, (World.cell?_of_block (by rw [block_of_add]; exact h.kept _ hi)).trans hu, RelC.mono h.sub h.kept _ _ hr⟩
  | .p id o, v, k => by
    simp only [RelV] at k ⊢
    obtain ⟨b, hl, e⟩ := k
    exact ⟨b, h.loc _ _ hl, e⟩
  | .pr id size i j, v, k => by
    simp only [RelV] at k ⊢
    obtain ⟨b, hl, e⟩ := k
    exact ⟨b, h.loc _ _ hl, e⟩
  | .sl id size start len, v, k => by
    simp only [RelV] at k ⊢
    rcases k with k | ⟨b, cap, o, hl, e, hc, ho, cs, ty, fr, hh, hz⟩
    · exact .inl k
    obtain ⟨cs', fr', hh', hz'⟩ := h.rows b cs ty fr hh
    exact .inr ⟨b, cap, o, h.loc _ _ hl, e, hc, ho, cs', ty, fr', hh', by rw [hz']; exact hz⟩
  | .sa id size start len, v, k => by
    simp only [RelV] at k ⊢
    obtain ⟨b, cap, o, hl, e, hc, ho, cs, ty, fr, hh, hz⟩ := k
    obtain ⟨cs', fr', hh', hz'⟩ := h.rows b cs ty fr hh
    exact ⟨b, cap, o, h.loc _ _ hl, e, hc, ho, cs', ty, fr', hh', by rw [hz']; exact hz⟩
  | .sk id size start len cap, v, k => by
    simp only [RelV] at k ⊢
    obtain ⟨b, o, hl, e, hc, ho, cs, ty, fr, hh, hz⟩ := k
    obtain ⟨cs', fr', hh', hz'⟩ := h.rows b cs ty fr hh
    exact ⟨b, o, h.loc _ _ hl, e, hc, ho, cs', ty, fr', hh', by rw [hz']; exact hz⟩
  | .agg xs, v, k => by
    simp only [RelV] at k ⊢
    obtain ⟨vs, e, hr⟩ := k
    exact ⟨vs, e, RelVs.mono h xs vs.toList hr⟩
  | .tup xs, v, k => by
    simp only [RelV] at k ⊢
    obtain ⟨vs, e, hr⟩ := k
    exact ⟨vs, e, RelVs.mono h xs vs.toList hr⟩
  | .fn f first caps, v, k => by
    simp only [RelV] at k ⊢
    obtain ⟨a, c, e, h1, h2⟩ := k
    exact ⟨a, c, e, RelVs.mono h first a.toList h1, RelVs.mono h caps c.toList h2⟩
theorem RelVs.mono {x y : Cx} (h : Ext x y) : ∀ (as : List AV) (vs : List Value), RelVs x as vs → RelVs y as vs
  | [], [], _ => by simp only [RelVs]
  | [], _ :: _, k => by simp [RelVs] at k
  | _ :: _, [], k => by simp [RelVs] at k
  | a :: as, v :: vs, k => by
    simp only [RelVs] at k ⊢
    exact ⟨RelV.mono h a v k.1, RelVs.mono h as vs k.2⟩
end

theorem RelC.up {x : Cx} : ∀ {c : CV} {v : Value}, RelC x.w x.I c v → RelV x c.up v
  | .b _, v, h => by simp only [CV.up, RelV]; exact h
  | .i _ _, v, h => by simp only [CV.up, RelV]; exact h
  | .s _, v, h => by simp only [CV.up, RelV]; exact h
  | .raw _, v, h => by simp only [CV.up, RelV]; exact h
  | .fs _ _ _, v, h => by simp only [CV.up, RelV]; exact h

theorem RelC.one {w : World} {I : Nat → Prop} : ∀ {c : CV} {v : Value}, RelC w I c v → v.oneCell' = true
  | .b _, v, h => by cases h; rfl
  | .i _ _, v, h => by cases h; rfl
  | .s _, v, h => by cases h; rfl
  | .raw _, v, h => by rw [h.1]; exact h.2
  | .fs _ _ _, v, h => by obtain ⟨A, cap, e, _⟩ := h; rw [e]; rfl

end Go.Hb

namespace Go.Hb
open Go.RowKit

def lk {α : Type} (k : Nat) : List (Nat × α) → Option α
  | [] => none
  | (j, v) :: r => match Nat.beq k j with
    | true => some v
    | false => lk k r

theorem lk_cons {α : Type} (k j : Nat) (v : α) (r : List (Nat × α)) : lk k ((j, v) :: r) = if k = j then some v else lk k r := by
  by_cases h : k = j
  · subst h
    simp [lk]
  · have : Nat.beq k j = false := by
      cases e : Nat.beq k j with
      | false => rfl
      | true => exact absurd (Nat.eq_of_beq_eq_true e) h
    simp [lk, this, h]

inductive X where
  | t (n : Nat)
  | c (v : AV)

def gx (env : List (Nat × AV)) (K : AV → Prop) : X → Prop
  | .t n => match lk n env with
    | some v => K v
    | none => False
  | .c v => K v

def gxs (env : List (Nat × AV)) : List X → (List AV → Prop) → Prop
  | [], K => K []
  | x :: xs, K => gx env (fun v => gxs env xs fun vs => K (v :: vs)) x

/-- A constant, seen as a value of ours. -/
def vAV1 : Value → AV
  | .bool true => .tt
  | .bool false => .ff
  | .int k n => .i k n
  | .string s => .s s
  | .slice none 0 0 => .nils
  | v => .raw v
def vAV : Value → AV
  | .agg cs => .agg (cs.toList.map vAV1)
  | .func f _ _ => .fn f [] []
  | v => vAV1 v
def vOk : Value → Bool
  | .agg cs => cs.toList.all fun v => v.oneCell'
  | .tuple _ => false
  | .func _ a b => a.size == 0 && b.size == 0
  | _ => true

theorem vAV1_rel (x : Cx) (v : Value) (h : v.oneCell' = true) : RelV x (vAV1 v) v := by
  unfold vAV1
  split
  all_goals first
    | (simp only [RelV]; done)
    | (unfold RelV; exact ⟨rfl, h⟩)

theorem vAV1s_rel (x : Cx) : ∀ (l : List Value), (l.all fun v => v.oneCell') = true → RelVs x (l.map vAV1) l
  | [], _ => by simp [RelVs]
  | v :: l, h => by
    simp only [List.all_cons, Bool.and_eq_true] at h
    simp only [List.map_cons, RelVs]
    exact ⟨vAV1_rel x v h.1, vAV1s_rel x l h.2⟩

theorem vAV_rel (x : Cx) (v : Value) (h : vOk v = true) : RelV x (vAV v) v := by
  cases v with
  | agg cs =>
    simp only [vAV, RelV]
    exact ⟨cs, rfl, vAV1s_rel x cs.toList (by simpa [vOk] using h)⟩
  | tuple cs => simp [vOk] at h
  | func f a b =>
    simp only [vOk, Bool.and_eq_true, beq_iff_eq] at h
    simp only [vAV, RelV]
    refine ⟨a, b, rfl, ?_, ?_⟩
    · rw [Array.eq_empty_of_size_eq_zero h.1]; simp [RelVs]
    · rw [Array.eq_empty_of_size_eq_zero h.2]; simp [RelVs]
  | _ => simp only [vAV]; exact vAV1_rel x _ rfl

def convX : Operand → Option X
  | .tmp t => some (.t t)
  | .const v => match vOk v with
    | true => some (.c (vAV v))
    | false => none
  | .func f => some (.c (.fn (.func f) [] []))
  | .global _ => none

def X.tmps : X → List Nat
  | .t n => [n]
  | .c _ => []

/-- What is known of the slots `ts`. -/
def Known (x : Cx) (env : List (Nat × AV)) (tmps : Array Value) (ts : List Nat) : Prop :=
  ∀ t ∈ ts, ∀ v, lk t env = some v → ∃ u, tmps[t]? = some u ∧ RelV x v u

theorem gx_sound {env : List (Nat × AV)} {o : Operand} {m : X} {K : AV → Prop} (hc : convX o = some m) (h : gx env K m) :
    ∃ v, K v ∧ ∀ (x : Cx) (a : Act), Known x env a.tmps m.tmps → RelV x v (a.eval o) := by
  cases o with
  | tmp t =>
    simp only [convX, Option.some.injEq] at hc
    subst hc
    simp only [gx] at h
    cases hl : lk t env with
    | none => simp [hl] at h
    | some v =>
      simp only [hl] at h
      refine ⟨v, h, fun x a hk => ?_⟩
      obtain ⟨u, hu, hr⟩ := hk t (by simp [X.tmps]) v hl
      simpa [Act.eval, Array.getD_eq_getD_getElem?, hu] using hr
  | const v =>
    simp only [convX] at hc
    split at hc
    · rename_i hv
      simp only [Option.some.injEq] at hc
      subst hc
      exact ⟨_, h, fun x a _ => vAV_rel x v hv⟩
    · cases hc
  | func f =>
    simp only [convX, Option.some.injEq] at hc
    subst hc
    refine ⟨_, h, fun x a _ => ?_⟩
    simp only [RelV, Act.eval]
    exact ⟨#[], #[], rfl, by simp [RelVs], by simp [RelVs]⟩
  | global g => simp [convX] at hc

theorem Known.sub {x : Cx} {env : List (Nat × AV)} {tmps : Array Value} {ts us : List Nat} (h : Known x env tmps ts) (hs : ∀ t ∈ us, t ∈ ts) : Known x env tmps us :=
  fun t ht => h t (hs t ht)

def convXs : List Operand → Option (List X)
  | [] => some []
  | o :: r => match convX o, convXs r with
    | some x, some xs => some (x :: xs)
    | _, _ => none

def tmpsOf (l : List X) : List Nat := l.flatMap X.tmps

theorem gxs_sound {env : List (Nat × AV)} : ∀ {os : List Operand} {ms : List X} {K : List AV → Prop}, convXs os = some ms → gxs env ms K →
    ∃ vs, K vs ∧ ∀ (x : Cx) (a : Act), Known x env a.tmps (tmpsOf ms) → RelVs x vs (os.map a.eval)
  | [], ms, K, hc, h => by
    simp only [convXs, Option.some.injEq] at hc
    subst hc
    exact ⟨[], h, fun x a _ => by simp [RelVs]⟩
  | o :: os, ms, K, hc, h => by
    simp only [convXs] at hc
    split at hc
    · rename_i m ms' h1 h2
      simp only [Option.some.injEq] at hc
      subst hc
      obtain ⟨v, hv, hr⟩ := gx_sound h1 h
      obtain ⟨vs, hvs, hrs⟩ := gxs_sound h2 hv
      refine ⟨v :: vs, hvs, fun x a hk => ?_⟩
      simp only [List.map_cons, RelVs]
      refine ⟨hr x a (hk.sub fun t ht => ?_), hrs x a (hk.sub fun t ht => ?_)⟩
      · simp only [tmpsOf, List.flatMap_cons, List.mem_append]
        exact .inl ht
      · simp only [tmpsOf, List.flatMap_cons, List.mem_append]
        exact .inr ht
    · cases hc

/-! ### Blocks -/

/-- No cell of the block is frozen. -/
def Thaw (fr : Nat × Nat) (n : Nat) : Prop := ∀ o, o < n → ¬ (fr.1 ≤ o ∧ o < fr.2)
theorem Thaw.le {fr : Nat × Nat} {n m : Nat} (h : Thaw fr n) (hm : m ≤ n) : Thaw fr m := fun o ho => h o (Nat.lt_of_lt_of_le ho hm)
theorem Thaw.zero (n : Nat) : Thaw (0, 0) n := fun o _ h => by have := h.2; simp at this

def BlkRel (x : Cx) : Blk → Nat → Prop
  | .lit cs, b => ∃ arr ty fr, x.w.heap[b]? = some (Obj.cells arr ty fr) ∧ Thaw fr (arr.size + 1) ∧ RelVs x cs arr.toList
  | .rows n size cell, b => ∃ arr ty fr, x.w.heap[b]? = some (Obj.cells arr ty fr) ∧ Thaw fr arr.size ∧ n * size ≤ arr.size ∧
      ∀ i j, i < n → j < size → ∃ u, arr[i * size + j]? = some u ∧ RelC x.w x.I (cell i j) u
  | .dead, _ => True

theorem BlkRel.mono {x y : Cx} (h : Ext x y) {k : Blk} {b : Nat} (hb : y.w.heap[b]? = x.w.heap[b]?) (hr : BlkRel x k b) : BlkRel y k b := by
  cases k with
  | lit cs =>
    obtain ⟨arr, ty, fr, e, hf, r⟩ := hr
    exact ⟨arr, ty, fr, hb.trans e, hf, RelVs.mono h _ _ r⟩
  | rows n size cell =>
    obtain ⟨arr, ty, fr, e, hf, hn, r⟩ := hr
    refine ⟨arr, ty, fr, hb.trans e, hf, hn, fun i j h1 h2 => ?_⟩
    obtain ⟨u, hu, hr⟩ := r i j h1 h2
    exact ⟨u, hu, RelC.mono h.sub h.kept _ _ hr⟩
  | dead => trivial

def AV.cv : AV → Option CV
  | .tt => some (.b true)
  | .ff => some (.b false)
  | .b x => some (.b x)
  | .i k n => some (.i k n)
  | .s x => some (.s x)
  | .raw v => some (.raw v)
  | .fs n size cell => some (.fs n size cell)
  | .nils => some (.raw (.slice none 0 0))
  | _ => none

theorem AV.cv_rel {x : Cx} : ∀ {a : AV} {c : CV} {v : Value}, a.cv = some c → RelV x a v → RelC x.w x.I c v := by
  intro a c v hc h
  cases a with
  | nils =>
    simp only [AV.cv, Option.some.injEq] at hc
    subst hc
    simp only [RelV] at h
    subst h
    exact ⟨rfl, rfl⟩
  | fe _ _ _ => simp [AV.cv] at hc
  | p _ _ => simp [AV.cv] at hc
  | pr _ _ _ _ => simp [AV.cv] at hc
  | sl _ _ _ _ => simp [AV.cv] at hc
  | sa _ _ _ _ => simp [AV.cv] at hc
  | sk _ _ _ _ _ => simp [AV.cv] at hc
  | agg _ => simp [AV.cv] at hc
  | tup _ => simp [AV.cv] at hc
  | fn _ _ _ => simp [AV.cv] at hc
  | _ =>
    simp only [AV.cv, Option.some.injEq] at hc
    subst hc
    simp only [RelV] at h
    exact h

end Go.Hb

namespace Go.Hb
open Go.RowKit

/-! ### What may be taken first: it only computes, and reads -/

inductive MO where
  | mv (x : X)
  | pick (c a b : X)
  | load (sz : Nat) (ag : Bool) (x : X)
  | bin (op : BinOp) (x y : X)
  | eqB (ne : Bool) (x y : X)
  | un (op : UnOp) (x : X)
  | faddr (off : Nat) (x : X)
  | field (off sz : Nat) (ag : Bool) (x : X)
  | iaddr (size : Nat) (x i : X)
  | iaddrA (n size : Nat) (x i : X)
  | idxS (x i : X)
  | ext (x : X) (i : Nat)
  | len (str : Bool) (x : X)
  | conv (k : IntKind) (x : X)
  | slcS (x : X) (lo hi : Option X)
  | slc (size : Nat) (x : X) (lo hi : Option X)
  | slcA (n size : Nat) (x : X) (lo hi : Option X)
  | mkfn (f : Fn) (first caps : List X)
  | nilck (x : X)
  | build (zs : List AV) (parts : List (Nat × Nat × X))
  | cap (x : X)
  | mm (mx : Bool) (x y : X)
  | b2s (x : X)
  | slc3 (size : Nat) (x : X) (lo hi : Option X) (mx : X)
  | idxA (n size : Nat) (ag : Bool) (x i : X)
  | eqA (ne : Bool) (ks : List Nat) (x y : X)

def tAgg (P : Program) (t : TypeId) : Option Bool :=
  match P.underlying t with
  | some (.struct _) => some true
  | some (.array _ _) => some true
  | some _ => some false
  | none => none
def tSize (P : Program) (t : TypeId) : Option Nat := (P.info? t).map (·.size)

/-- A list with some in the place of others. -/
def setAt : List AV → Nat → List AV → List AV
  | l, _, [] => l
  | [], _, _ => []
  | _ :: r, 0, v :: vs => v :: setAt r 0 vs
  | a :: r, k + 1, vs => a :: setAt r k vs
def takeAt (l : List AV) : Nat → Nat → Option (List AV)
  | _, 0 => some []
  | k, n + 1 => match l[k]?, takeAt l (k + 1) n with
    | some a, some r => some (a :: r)
    | _, _ => none
def feCells (cell : Nat → CV) : Nat → Nat → List AV
  | _, 0 => []
  | j, n + 1 => (cell j).up :: feCells cell (j + 1) n

def brk (x : Bool) (A B : Prop) : Prop := (x = true → A) ∧ (x = false → B)

def intBin (op : BinOp) (k : IntKind) (a b : Int) (K : AV → Prop) : Prop :=
  match op with
  | .add => K (.i k (k.wrap (a + b)))
  | .sub => K (.i k (k.wrap (a - b)))
  | .mul => K (.i k (k.wrap (a * b)))
  | .quo => (match decide (b = 0) with
    | true => False
    | false => K (.i k (k.wrap (a.tdiv b))))
  | .rem => (match decide (b = 0) with
    | true => False
    | false => K (.i k (a.tmod b)))
  | .and => K (.i k (k.wrap ((BitVec.ofInt k.bits a &&& BitVec.ofInt k.bits b).toNat : Int)))
  | .or => K (.i k (k.wrap ((BitVec.ofInt k.bits a ||| BitVec.ofInt k.bits b).toNat : Int)))
  | .xor => K (.i k (k.wrap ((BitVec.ofInt k.bits a ^^^ BitVec.ofInt k.bits b).toNat : Int)))
  | .andNot => K (.i k (k.wrap ((BitVec.ofInt k.bits a &&& ~~~ BitVec.ofInt k.bits b).toNat : Int)))
  | .eql => K (.b (a == b))
  | .neq => K (.b (a != b))
  | .lss => K (.b (decide (a < b)))
  | .leq => K (.b (decide (a ≤ b)))
  | .gtr => K (.b (decide (a > b)))
  | .geq => K (.b (decide (a ≥ b)))
  | _ => False

def strBin (op : BinOp) (a b : ByteArray) (K : AV → Prop) : Prop :=
  match op with
  | .add => ((a.size + b.size : Nat) : Int) ≤ 9223372036854775807 ∧ K (.s (a ++ b))
  | .eql => K (.b (a.toList == b.toList))
  | .neq => K (.b (!(a.toList == b.toList)))
  | .lss => K (.b (Op.bytesLess a.toList b.toList))
  | .leq => K (.b (Op.bytesLess a.toList b.toList || a.toList == b.toList))
  | .gtr => K (.b (!(Op.bytesLess a.toList b.toList || a.toList == b.toList)))
  | .geq => K (.b (!(Op.bytesLess a.toList b.toList)))
  | _ => False

def avBin (op : BinOp) (a b : AV) (K : AV → Prop) : Prop :=
  match a, b with
  | .i k x, .i j y =>
    match op with
    | .shl => 0 ≤ y ∧ K (.i k (k.wrap (x * 2 ^ min y.toNat k.bits)))
    | .shr => 0 ≤ y ∧ K (.i k (x.fdiv (2 ^ min y.toNat k.bits)))
    | op => match decide (k = j) with
      | true => intBin op k x y K
      | false => False
  | .s x, .s y => strBin op x y K
  | _, _ => False

def boolOf : AV → Option Bool
  | .tt => some true
  | .ff => some false
  | .b x => some x
  | _ => none

/-- Are two cells alike: words, numbers, bools? -/
def eq1 (k : Nat) (a b : AV) : Option Bool :=
  match k with
  | 0 => match a, b with
    | .s x, .s y => some (x.toList == y.toList)
    | _, _ => none
  | 1 => match a, b with
    | .i k x, .i j y => (match decide (k = j) with
      | true => some (x == y)
      | false => none)
    | _, _ => none
  | _ => match boolOf a, boolOf b with
    | some x, some y => some (x == y)
    | _, _ => none
def eqCells : List Nat → List AV → List AV → Option Bool
  | [], [], [] => some true
  | k :: ks, a :: as, b :: bs => match eq1 k a b, eqCells ks as bs with
    | some q, some r => some (q && r)
    | _, _ => none
  | _, _, _ => none

def avUn (op : UnOp) (a : AV) (K : AV → Prop) : Prop :=
  match op, a with
  | .not, .b x => K (.b (!x))
  | .not, .tt => K .ff
  | .not, .ff => K .tt
  | .neg, .i k n => K (.i k (k.wrap (0 - n)))
  | .xor, .i k n => K (.i k (k.wrap ((BitVec.ofInt k.bits (if k.signed then -1 else k.max) ^^^ BitVec.ofInt k.bits n).toNat : Int)))
  | _, _ => False

def gxo (env : List (Nat × AV)) (d : Int) (K : Int → Prop) : Option X → Prop
  | none => K d
  | some x => gx env (fun v => match v with
    | .i _ z => K z
    | _ => False) x

/-- A part of what has n: from l to h. -/
def part (env : List (Nat × AV)) (n : Nat) (lo hi : Option X) (K : Nat → Nat → Prop) : Prop :=
  match lo, hi with
  | none, none => K 0 n
  | some lo, none => gx env (fun v => match v with
    | .i _ z => ∃ l : Nat, z = (l : Int) ∧ l ≤ n ∧ K l n
    | _ => False) lo
  | none, some hi => gx env (fun v => match v with
    | .i _ z => ∃ h : Nat, z = (h : Int) ∧ h ≤ n ∧ K 0 h
    | _ => False) hi
  | some lo, some hi => gx env (fun v => gx env (fun u => match v, u with
    | .i _ y, .i _ z => ∃ l h : Nat, y = (l : Int) ∧ z = (h : Int) ∧ l ≤ h ∧ h ≤ n ∧ K l h
    | _, _ => False) hi) lo

/-- A part of what has n, with room for c. -/
def partc (env : List (Nat × AV)) (n c : Nat) (lo hi : Option X) (K : Nat → Nat → Prop) : Prop :=
  match lo, hi with
  | none, none => K 0 n
  | some lo, none => gx env (fun v => match v with
    | .i _ z => ∃ l : Nat, z = (l : Int) ∧ l ≤ n ∧ K l n
    | _ => False) lo
  | none, some hi => gx env (fun v => match v with
    | .i _ z => ∃ h : Nat, z = (h : Int) ∧ h ≤ c ∧ K 0 h
    | _ => False) hi
  | some lo, some hi => gx env (fun v => gx env (fun u => match v, u with
    | .i _ y, .i _ z => ∃ l h : Nat, y = (l : Int) ∧ z = (h : Int) ∧ l ≤ h ∧ h ≤ c ∧ K l h
    | _, _ => False) hi) lo

def cvs : List AV → Option (List CV)
  | [] => some []
  | a :: r => match a.cv, cvs r with
    | some c, some cs => some (c :: cs)
    | _, _ => none

/-- A row of bytes, as a string. -/
def bytesOf (n : Nat) (f : Nat → CV) : ByteArray := ⟨(Array.range n).map fun i => match f i with
  | .i _ z => UInt8.ofNat z.toNat
  | _ => 0⟩
def isByte : CV → Prop
  | .i .u8 _ => True
  | _ => False

def fillAt : List AV → List (Nat × Nat × AV) → (List AV → Prop) → Prop
  | l, [], K => K l
  | l, (off, sz, v) :: r, K => match Nat.beq v.cells.length sz, Nat.ble (off + sz) l.length with
    | true, true => fillAt (setAt l off v.cells) r K
    | _, _ => False

def gparts (env : List (Nat × AV)) : List (Nat × Nat × X) → (List (Nat × Nat × AV) → Prop) → Prop
  | [], K => K []
  | (o, s, x) :: r, K => gx env (fun v => gparts env r fun vs => K ((o, s, v) :: vs)) x

def lop (env : List (Nat × AV)) (H : List (Nat × Blk)) (o : MO) (K : AV → Option Nat → Prop) : Prop :=
  match o with
  | .mv x => gx env (fun v => K v none) x
  | .pick c a b => gx env (fun v => match v with
    | .tt => gx env (fun u => K u none) a
    | .ff => gx env (fun u => K u none) b
    | .b x => brk x (gx env (fun u => K u none) a) (gx env (fun u => K u none) b)
    | _ => False) c
  | .load sz ag x => gx env (fun v => match v with
    | .p id k => match lk id H with
      | some (.lit cs) => match ag with
        | true => match takeAt cs k sz with
          | some l => K (.agg l) (some id)
          | none => False
        | false => match cs[k]? with
          | some a => K a (some id)
          | none => False
      | some (.rows n size cell) => match Nat.beq size 1, ag with
        | true, true => k + sz ≤ n ∧ K (.agg (feCells (fun i => cell i 0) k sz)) (some id)
        | _, _ => False
      | _ => False
    | .pr id size i j => match lk id H with
      | some (.rows n size' cell) => match Nat.beq size size', ag, Nat.ble (j + sz) size with
        | true, true, true => i < n ∧ K (.agg (feCells (cell i) j sz)) (some id)
        | true, false, true => i < n ∧ (match Nat.beq sz 1 with
          | true => K (cell i j).up (some id)
          | false => False)
        | _, _, _ => False
      | _ => False
    | .fe size cell j => match ag, Nat.ble (j + sz) size with
      | true, true => K (.agg (feCells cell j sz)) none
      | false, true => (match Nat.beq sz 1 with
        | true => K (cell j).up none
        | false => False)
      | _, _ => False
    | _ => False) x
  | .bin op x y => gx env (fun a => gx env (fun b => avBin op a b fun v => K v none) y) x
  | .eqB ne x y => gx env (fun a => gx env (fun b => match boolOf a, boolOf b with
    | some p, some q => (match ne with
      | true => K (.b (!(p == q))) none
      | false => K (.b (p == q)) none)
    | _, _ => False) y) x
  | .un op x => gx env (fun a => avUn op a fun v => K v none) x
  | .faddr off x => gx env (fun v => match v with
    | .p id k => K (.p id (k + off)) none
    | .pr id size i j => K (.pr id size i (j + off)) none
    | .fe size cell j => match Nat.ble (j + off + 1) size with
      | true => K (.fe size cell (j + off)) none
      | false => False
    | _ => False) x
  | .field off sz ag x => gx env (fun v => match v with
    | .agg cs => match ag with
      | true => match takeAt cs off sz with
        | some l => K (.agg l) none
        | none => False
      | false => match cs[off]? with
        | some a => K a none
        | none => False
    | _ => False) x
  | .iaddr size x i => gx env (fun v => gx env (fun iv => match iv with
    | .i _ z => match v with
      | .fs n size' cell => match Nat.beq size size' with
        | true => ∃ m : Nat, z = (m : Int) ∧ m < n ∧ K (.fe size (cell m) 0) none
        | false => False
      | .sl id size' start n => match Nat.beq size size' with
        | true => ∃ m : Nat, z = (m : Int) ∧ m < n ∧ K (.pr id size (start + m) 0) none
        | false => False
      | .sa id size' off n => match Nat.beq size size' with
        | true => ∃ m : Nat, z = (m : Int) ∧ m < n ∧ K (.p id (off + m * size)) none
        | false => False
      | .sk id size' start n _ => match Nat.beq size size' with
        | true => ∃ m : Nat, z = (m : Int) ∧ m < n ∧ K (.pr id size (start + m) 0) none
        | false => False
      | _ => False
    | _ => False) i) x
  | .iaddrA n size x i => gx env (fun v => gx env (fun iv => match iv with
    | .i _ z => match v with
      | .p id k => match lk id H with
        | some (.rows _ size' _) => match Nat.beq size size', Nat.beq k 0 with
          | true, true => ∃ m : Nat, z = (m : Int) ∧ m < n ∧ K (.pr id size m 0) none
          | _, _ => False
        | _ => ∃ m : Nat, z = (m : Int) ∧ m < n ∧ K (.p id (k + m * size)) none
      | .pr id size' i' j => ∃ m : Nat, z = (m : Int) ∧ m < n ∧ K (.pr id size' i' (j + m * size)) none
      | .fe size' cell j => ∃ m : Nat, z = (m : Int) ∧ m < n ∧ j + m * size < size' ∧ K (.fe size' cell (j + m * size)) none
      | _ => False
    | _ => False) i) x
  | .idxS x i => gx env (fun v => gx env (fun iv => match v, iv with
    | .s s, .i _ z => ∃ m : Nat, z = (m : Int) ∧ ∃ h : m < s.size, K (.i .u8 ((s[m]'h).toNat : Int)) none
    | _, _ => False) i) x
  | .ext x i => gx env (fun v => match v with
    | .tup l => match l[i]? with
      | some a => K a none
      | none => False
    | _ => False) x
  | .len str x => gx env (fun v => match str with
    | true => match v with
      | .s s => K (.i .i64 (s.size : Int)) none
      | _ => False
    | false => match v with
      | .fs n _ _ => K (.i .i64 (n : Int)) none
      | .nils => K (.i .i64 ((0 : Nat) : Int)) none
      | .sl _ _ _ n => K (.i .i64 (n : Int)) none
      | .sa _ _ _ n => K (.i .i64 (n : Int)) none
      | .sk _ _ _ n _ => K (.i .i64 (n : Int)) none
      | _ => False) x
  | .conv k x => gx env (fun v => match v with
    | .i _ n => K (.i k (k.wrap n)) none
    | _ => False) x
  | .slcS x lo hi => gx env (fun v => match v with
    | .s s => part env s.size lo hi fun l h => K (.s (s.extract l h)) none
    | _ => False) x
  | .slc size x lo hi => gx env (fun v => match v with
    | .fs n size' cell => match Nat.beq size size' with
      | true => part env n lo hi fun l h => K (.fs (h - l) size fun i j => cell (l + i) j) none
      | false => False
    | .sl id size' start n => match Nat.beq size size' with
      | true => part env n lo hi fun l h => K (.sl id size (start + l) (h - l)) none
      | false => False
    | .sa id size' off n => match Nat.beq size size' with
      | true => part env n lo hi fun l h => K (.sa id size (off + l * size) (h - l)) none
      | false => False
    | .sk id size' start n cap => match Nat.beq size size' with
      | true => partc env n cap lo hi fun l h => K (.sk id size (start + l) (h - l) (cap - l)) none
      | false => False
    | .nils => part env 0 lo hi fun _ _ => K .nils none
    | _ => False) x
  | .slcA n size x lo hi => gx env (fun v => match v with
    | .p id k => match lk id H with
      | some (.rows n' size' _) => match Nat.beq size size', Nat.beq k 0, Nat.beq n n' with
        | true, true, true => part env n lo hi fun l h => K (.sl id size l (h - l)) (some id)
        | _, _, _ => False
      | some (.lit cs) => match Nat.ble (k + n * size) cs.length with
        | true => part env n lo hi fun l h => K (.sa id size (k + l * size) (h - l)) (some id)
        | false => False
      | _ => False
    | .fe size' cell j => match Nat.ble (j + n * size) size' with
      | true => part env n lo hi fun l h => K (.fs (h - l) size fun a b => cell (j + (l + a) * size + b)) none
      | false => False
    | _ => False) x
  | .mkfn f first caps => gxs env first fun a => gxs env caps fun c => K (.fn f a c) none
  | .nilck x => gx env (fun v => match v with
    | .p _ _ => K v none
    | .pr _ _ _ _ => K v none
    | .fe _ _ _ => K v none
    | .fn (.func _) _ _ => K v none
    | _ => False) x
  | .build zs parts => gparts env parts fun l => fillAt zs l fun cs => K (.agg cs) none
  | .cap x => gx env (fun v => match v with
    | .sk _ _ _ _ c => K (.i .i64 (c : Int)) none
    | .nils => K (.i .i64 ((0 : Nat) : Int)) none
    | _ => False) x
  | .mm mx x y => gx env (fun a => gx env (fun b => match a, b with
    | .i k p, .i _ q => (match mx with
      | true => K (.i k (if q > p then q else p)) none
      | false => K (.i k (if q < p then q else p)) none)
    | _, _ => False) y) x
  | .b2s x => gx env (fun v => match v with
    | .fs n size cell => (match Nat.beq size 1 with
      | true => (∀ i, i < n → isByte (cell i 0)) ∧ K (.s (bytesOf n fun i => cell i 0)) none
      | false => False)
    | .nils => K (.s ByteArray.empty) none
    | .sl id size st n => (match lk id H with
      | some (.rows n' size' cell) => (match Nat.beq size 1, Nat.beq size' 1 with
        | true, true => st + n ≤ n' ∧ (∀ i, i < n → isByte (cell (st + i) 0)) ∧ K (.s (bytesOf n fun i => cell (st + i) 0)) (some id)
        | _, _ => False)
      | _ => False)
    | .sa id size off n => (match lk id H with
      | some (.lit cs) => (match Nat.beq size 1, takeAt cs off n with
        | true, some l => (match cvs l with
          | some cl => (∀ i, i < n → isByte (cl.getD i (.b false))) ∧ K (.s (bytesOf n fun i => cl.getD i (.b false))) (some id)
          | none => False)
        | _, _ => False)
      | _ => False)
    | _ => False) x
  | .slc3 size x lo hi mx => gx env (fun v => gx env (fun m => match m with
    | .i _ z => (match v with
      | .sk id size' start n cap => (match Nat.beq size size' with
        | true => ∃ c : Nat, z = (c : Int) ∧ c ≤ cap ∧ partc env c c lo hi fun l h => K (.sk id size (start + l) (h - l) (c - l)) none
        | false => False)
      | .sl id size' start n => (match Nat.beq size size' with
        | true => ∃ c : Nat, z = (c : Int) ∧ c ≤ n ∧ partc env c c lo hi fun l h => K (.sl id size (start + l) (h - l)) none
        | false => False)
      | _ => False)
    | _ => False) mx) x
  | .idxA n size ag x i => gx env (fun v => gx env (fun iv => match v, iv with
    | .agg cs, .i _ z => ∃ m : Nat, z = (m : Int) ∧ m < n ∧ (match ag with
      | true => ∃ l, takeAt cs (m * size) size = some l ∧ K (.agg l) none
      | false => ∃ a, cs[m * size]? = some a ∧ K a none)
    | _, _ => False) i) x
  | .eqA ne ks x y => gx env (fun a => gx env (fun b => match a, b with
    | .agg as, .agg bs => (match eqCells ks as bs with
      | some r => (match ne with
        | true => K (.b (!r)) none
        | false => K (.b r) none)
      | none => False)
    | _, _ => False) y) x

end Go.Hb

namespace Go.Hb
open Go.RowKit

/-- In every place where what it looks at is as we know it, the operation leaves such a value, and nothing else happens. -/
def Ylds (P : Program) (o : Oper) (ts : List Nat) (env : List (Nat × AV)) (H : List (Nat × Blk)) (v : AV) (tch : Option Nat) : Prop :=
  ∀ (x : Cx) (a : Act), Known x env a.tmps ts → (∀ id, tch = some id → ∀ blk b, lk id H = some blk → x.loc id = some b → BlkRel x blk b) →
    ∃ u, (execOp a.eval o).run P x.w = .ok (.value u) x.w ∧ RelV x v u

section
variable {P : Program} {env : List (Nat × AV)} {H : List (Nat × Blk)} {K : AV → Option Nat → Prop} {o : Oper}

theorem lop_mv {ox : Operand} {x : X} (ho : o.op = .move ox ∨ o.op = .assign ox) (hx : convX ox = some x) (h : lop env H (.mv x) K) :
    ∃ v t, K v t ∧ Ylds P o x.tmps env H v t := by
  obtain ⟨v, hv, hr⟩ := gx_sound hx h
  refine ⟨v, none, hv, fun c a hk _ => ⟨_, ?_, hr c a hk⟩⟩
  rcases ho with ho | ho <;> simp [execOp, ho]

theorem lop_pick {oc oa ob : Operand} {xc xa xb : X} (ho : o.op = .pick oc oa ob) (hc : convX oc = some xc) (ha : convX oa = some xa) (hb : convX ob = some xb)
    (h : lop env H (.pick xc xa xb) K) : ∃ v t, K v t ∧ Ylds P o (xc.tmps ++ (xa.tmps ++ xb.tmps)) env H v t := by
  obtain ⟨v, hv, hr⟩ := gx_sound hc h
  have key : ∀ (b : Bool), (∀ (c : Cx) (a : Act), Known c env a.tmps xc.tmps → a.eval oc = .bool b) → gx env (fun u => K u none) (if b then xa else xb) →
      ∃ v t, K v t ∧ Ylds P o (xc.tmps ++ (xa.tmps ++ xb.tmps)) env H v t := by
    intro b hev hg
    have hcv : convX (if b then oa else ob) = some (if b then xa else xb) := by cases b <;> simpa
    obtain ⟨u, hu, hru⟩ := gx_sound hcv hg
    refine ⟨u, none, hu, fun c a hk _ => ⟨a.eval (if b then oa else ob), ?_, hru c a (hk.sub fun t ht => ?_)⟩⟩
    · have := hev c a (hk.sub fun t ht => by simp [ht])
      cases b <;> simp [execOp, ho, this, asBool]
    · cases b <;> simp at ht <;> simp [ht]
  cases v with
  | tt => exact key true (fun c a hk => by have := hr c a hk; simpa [RelV] using this) hv
  | ff => exact key false (fun c a hk => by have := hr c a hk; simpa [RelV] using this) hv
  | b y =>
    cases y with
    | true => exact key true (fun c a hk => by have := hr c a hk; simpa [RelV] using this) (hv.1 rfl)
    | false => exact key false (fun c a hk => by have := hr c a hk; simpa [RelV] using this) (hv.2 rfl)
  | _ => exact hv.elim

theorem isAgg_run {t : TypeId} {b : Bool} (h : tAgg P t = some b) (w : World) : (isAgg t).run P w = .ok b w := by
  unfold tAgg at h
  split at h <;> simp at h <;> subst h
  · rename_i e; simp [isAgg, run_underlying e]
  · rename_i e; simp [isAgg, run_underlying e]
  · rename_i d h1 h2 e
    simp only [isAgg, Sem.run_bind, run_underlying e, Result.andThen_ok]
    cases d <;> simp_all
theorem sizeOf_run {t : TypeId} {n : Nat} (h : tSize P t = some n) (w : World) : (sizeOf t).run P w = .ok n w := by
  unfold tSize at h
  obtain ⟨i, hi, rfl⟩ := Option.map_eq_some_iff.1 h
  simp [sizeOf, typeInfo, hi]

theorem takeAt_spec : ∀ {l : List AV} {n k : Nat} {r : List AV}, takeAt l k n = some r → r.length = n ∧ ∀ j a, r[j]? = some a → l[k + j]? = some a
  | l, 0, k, r, h => by
    simp [takeAt] at h
    subst h
    simp
  | l, n + 1, k, r, h => by
    simp only [takeAt] at h
    split at h
    · rename_i a r' h1 h2
      simp only [Option.some.injEq] at h
      subst h
      obtain ⟨hl, hr⟩ := takeAt_spec h2
      refine ⟨by simp [hl], fun j b hb => ?_⟩
      cases j with
      | zero => simp at hb; subst hb; simpa using h1
      | succ j => simp at hb; rw [show k + (j + 1) = k + 1 + j by omega]; exact hr j b hb
    · cases h

theorem feCells_length (cell : Nat → CV) : ∀ (n j : Nat), (feCells cell j n).length = n
  | 0, _ => rfl
  | n + 1, j => by simp [feCells, feCells_length cell n]
theorem feCells_get (cell : Nat → CV) : ∀ (n j i : Nat), i < n → (feCells cell j n)[i]? = some (cell (j + i)).up
  | 0, _, _, h => absurd h (Nat.not_lt_zero _)
  | n + 1, j, 0, _ => by simp [feCells]
  | n + 1, j, i + 1, h => by
    simp only [feCells, List.getElem?_cons_succ]
    rw [feCells_get cell n (j + 1) i (by omega)]
    rw [show j + 1 + i = j + (i + 1) by omega]

theorem RelVs_of {x : Cx} : ∀ {as : List AV} {vs : List Value}, vs.length = as.length → (∀ (i : Nat) a v, as[i]? = some a → vs[i]? = some v → RelV x a v) → RelVs x as vs
  | [], [], _, _ => by simp [RelVs]
  | [], _ :: _, h, _ => by simp at h
  | _ :: _, [], h, _ => by simp at h
  | a :: as, v :: vs, h, k => by
    simp only [RelVs]
    exact ⟨k 0 a v rfl rfl, RelVs_of (by simpa using h) fun i b u hb hu => k (i + 1) b u (by simpa using hb) (by simpa using hu)⟩

/-- Loading cells that are known one by one. -/
theorem load_agg {x : Cx} {ad : Addr} {l : List AV} {t : TypeId} (hag : tAgg P t = some true) (hsz : tSize P t = some l.length)
    (hc : ∀ (j : Nat) a, l[j]? = some a → ∃ u, x.w.cell? (ad.add j) = some u ∧ RelV x a u) :
    ∃ u, (loadVar t ad).run P x.w = .ok u x.w ∧ RelV x (.agg l) u := by
  have hf : ∀ j : Nat, ∃ u, ∀ a, l[j]? = some a → x.w.cell? (ad.add j) = some u ∧ RelV x a u := by
    intro j
    cases hj : l[j]? with
    | none => exact ⟨undef, fun a ha => by cases ha⟩
    | some a =>
      obtain ⟨u, h1, h2⟩ := hc j a hj
      exact ⟨u, fun b hb => by simp only [Option.some.injEq] at hb; subst hb; exact ⟨h1, h2⟩⟩
  obtain ⟨f, hf⟩ := Classical.axiomOfChoice hf
  refine ⟨.agg ((Array.range l.length).map f), ?_, ?_⟩
  · simp only [loadVar, Sem.run_bind, isAgg_run hag, Result.andThen_ok, if_true, sizeOf_run hsz]
    rw [run_loadCells x.w ad l.length f]
    · simp only [Sem.run_bind, Sem.run_pure, Result.andThen_ok]
      congr 2
      apply Array.ext'
      simp
    · intro j hj
      exact (hf j l[j] (List.getElem?_eq_getElem hj)).1
  · simp only [RelV]
    refine ⟨_, rfl, RelVs_of (by simp) fun i a v ha hv => ?_⟩
    have hlt : i < l.length := (List.getElem?_eq_some_iff.1 ha).1
    have : v = f i := by
      have : ((Array.range l.length).map f).toList[i]? = some (f i) := by simp [hlt]
      rw [this] at hv
      exact (Option.some.inj hv).symm
    subst this
    exact (hf i a ha).2
theorem load_one {x : Cx} {ad : Addr} {a : AV} {u : Value} {t : TypeId} (hag : tAgg P t = some false) (hc : x.w.cell? ad = some u) (hr : RelV x a u) :
    ∃ u, (loadVar t ad).run P x.w = .ok u x.w ∧ RelV x a u := by
  refine ⟨u, ?_, hr⟩
  simp [loadVar, isAgg_run hag, hc]

theorem cell_of_blk {w : World} {b : Nat} {arr : Array Value} {ty : TypeId} {fr : Nat × Nat} (h : w.heap[b]? = some (Obj.cells arr ty fr)) (k : Nat) : w.cell? ⟨b, k, none⟩ = arr[k]? := by
  simp [World.cell?, h]

theorem lop_load {ox : Operand} {x : X} {t : TypeId} {sz : Nat} {ag : Bool} (ho : o.op = .load t ox) (hx : convX ox = some x) (hag : tAgg P t = some ag) (hsz : tSize P t = some sz)
    (h : lop env H (.load sz ag x) K) : ∃ v tch, K v tch ∧ Ylds P o x.tmps env H v tch := by
  obtain ⟨v, hv, hr⟩ := gx_sound hx h
  have fin : ∀ (y : AV) (tch : Option Nat), K y tch → (∀ (c : Cx) (u : Value), RelV c v u → (∀ id, tch = some id → ∀ blk b, lk id H = some blk → c.loc id = some b → BlkRel c blk b) →
      ∃ ad, u = .pointer (some ad) ∧ ∃ u', (loadVar t ad).run P c.w = .ok u' c.w ∧ RelV c y u') → ∃ v tch, K v tch ∧ Ylds P o x.tmps env H v tch := by
    intro y tch hy hrun
    refine ⟨y, tch, hy, fun c a hk ht => ?_⟩
    obtain ⟨ad, he, u', hrun', hrel⟩ := hrun c _ (hr c a hk) ht
    refine ⟨u', ?_, hrel⟩
    simp [execOp, ho, Instr.loadAt, he, Instr.sureAddr, hrun']
  cases v with
  | p id k =>
    simp only at hv
    cases hl : lk id H with
    | none => simp [hl] at hv
    | some blk =>
      cases blk with
      | lit cs =>
        simp only [hl] at hv
        cases ag with
        | true =>
          simp only at hv
          cases ht : takeAt cs k sz with
          | none => simp [ht] at hv
          | some l =>
            simp only [ht] at hv
            obtain ⟨hlen, hget⟩ := takeAt_spec ht
            refine fin _ _ hv fun c u hu htc => ?_
            simp only [RelV] at hu
            obtain ⟨b, hloc, rfl⟩ := hu
            have h3 := htc id rfl _ _ hl hloc
            obtain ⟨arr, ty, fr, hheap, _, hrel⟩ := h3
            refine ⟨_, rfl, load_agg hag (by rw [hlen]; exact hsz) fun j a ha => ?_⟩
            obtain ⟨u, hu, hra⟩ := RelVs_get hrel _ _ (hget j a ha)
            exact ⟨u, by rw [add_plain, cell_of_blk hheap]; simpa using hu, hra⟩
        | false =>
          simp only at hv
          cases ht : cs[k]? with
          | none => simp [ht] at hv
          | some l =>
            simp only [ht] at hv
            refine fin _ _ hv fun c u hu htc => ?_
            simp only [RelV] at hu
            obtain ⟨b, hloc, rfl⟩ := hu
            have h3 := htc id rfl _ _ hl hloc
            obtain ⟨arr, ty, fr, hheap, _, hrel⟩ := h3
            obtain ⟨u, hu, hra⟩ := RelVs_get hrel _ _ ht
            exact ⟨_, rfl, load_one hag (by rw [cell_of_blk hheap]; simpa using hu) hra⟩
      | rows n size cell =>
        simp only [hl] at hv
        cases h1 : Nat.beq size 1 with
        | false => cases ag <;> simp [h1] at hv
        | true =>
          obtain rfl := Nat.eq_of_beq_eq_true h1
          cases ag with
          | false => simp [h1] at hv
          | true =>
            simp only [h1] at hv
            obtain ⟨hin, hv⟩ := hv
            refine fin _ _ hv fun c u hu htc => ?_
            simp only [RelV] at hu
            obtain ⟨b, hloc, rfl⟩ := hu
            have h3 := htc id rfl _ _ hl hloc
            obtain ⟨arr, ty, fr, hheap, _, _, hrel⟩ := h3
            refine ⟨_, rfl, load_agg hag (by rw [feCells_length]; exact hsz) fun q a ha => ?_⟩
            have hq : q < sz := by
              have := (List.getElem?_eq_some_iff.1 ha).1
              rwa [feCells_length] at this
            rw [feCells_get _ _ _ _ hq] at ha
            cases ha
            obtain ⟨u, hu, hra⟩ := hrel (k + q) 0 (by omega) (by decide)
            exact ⟨u, by rw [add_plain, cell_of_blk hheap]; simpa using hu, hra.up⟩
      | _ => simp [hl] at hv
  | pr id size i j =>
    simp only at hv
    cases hl : lk id H with
    | none => simp [hl] at hv
    | some blk =>
      cases blk with
      | rows n size' cell =>
        simp only [hl] at hv
        cases hs : Nat.beq size size' with
        | false => simp [hs] at hv
        | true =>
          obtain rfl := Nat.eq_of_beq_eq_true hs
          cases hb : Nat.ble (j + sz) size with
          | false => cases ag <;> simp [hs, hb] at hv
          | true =>
            have hle : j + sz ≤ size := Nat.le_of_ble_eq_true hb
            cases ag with
            | true =>
              simp only [hs, hb] at hv
              obtain ⟨hin, hv⟩ := hv
              refine fin _ _ hv fun c u hu htc => ?_
              simp only [RelV] at hu
              obtain ⟨b, hloc, rfl⟩ := hu
              have h3 := htc id rfl _ _ hl hloc
              obtain ⟨arr, ty, fr, hheap, _, _, hrel⟩ := h3
              refine ⟨_, rfl, load_agg hag (by rw [feCells_length]; exact hsz) fun q a ha => ?_⟩
              have hq : q < sz := by
                have := (List.getElem?_eq_some_iff.1 ha).1
                rwa [feCells_length] at this
              rw [feCells_get _ _ _ _ hq] at ha
              cases ha
              obtain ⟨u, hu, hra⟩ := hrel i (j + q) hin (by omega)
              exact ⟨u, by rw [add_plain, cell_of_blk hheap, Nat.add_assoc]; exact hu, hra.up⟩
            | false =>
              simp only [hs, hb] at hv
              obtain ⟨hin, hv⟩ := hv
              cases h1 : Nat.beq sz 1 with
              | false => simp [h1] at hv
              | true =>
                simp only [h1] at hv
                obtain rfl := Nat.eq_of_beq_eq_true h1
                refine fin _ _ hv fun c u hu htc => ?_
                simp only [RelV] at hu
                obtain ⟨b, hloc, rfl⟩ := hu
                have h3 := htc id rfl _ _ hl hloc
                obtain ⟨arr, ty, fr, hheap, _, _, hrel⟩ := h3
                obtain ⟨u, hu, hra⟩ := hrel i j hin (by omega)
                exact ⟨_, rfl, load_one hag (by rw [cell_of_blk hheap]; exact hu) hra.up⟩
      | _ => simp [hl] at hv
  | fe size cell j =>
    simp only at hv
    cases hb : Nat.ble (j + sz) size with
    | false => cases ag <;> simp [hb] at hv
    | true =>
      have hle : j + sz ≤ size := Nat.le_of_ble_eq_true hb
      cases ag with
      | true =>
        simp only [hb] at hv
        refine fin _ _ hv fun c u hu _ => ?_
        simp only [RelV] at hu
        obtain ⟨ad, rfl, hI, hc⟩ := hu
        refine ⟨_, rfl, load_agg hag (by rw [feCells_length]; exact hsz) fun q a ha => ?_⟩
        have hq : q < sz := by
          have := (List.getElem?_eq_some_iff.1 ha).1
          rwa [feCells_length] at this
        rw [feCells_get _ _ _ _ hq] at ha
        cases ha
        obtain ⟨u, hu, hra⟩ := hc q (by omega)
        exact ⟨u, hu, hra.up⟩
      | false =>
        simp only [hb] at hv
        cases h1 : Nat.beq sz 1 with
        | false => simp [h1] at hv
        | true =>
          simp only [h1] at hv
          obtain rfl := Nat.eq_of_beq_eq_true h1
          refine fin _ _ hv fun c u hu _ => ?_
          simp only [RelV] at hu
          obtain ⟨ad, rfl, hI, hc⟩ := hu
          obtain ⟨u, hu, hra⟩ := hc 0 (by omega)
          have h0 : ad.add 0 = ad := by simp [Addr.add]
          rw [h0] at hu
          exact ⟨_, rfl, load_one hag hu (by simpa using hra.up)⟩
  | _ => exact hv.elim

/-- The one value that a plain number, string or bool is. -/
def valOf : AV → Value
  | .tt => .bool true
  | .ff => .bool false
  | .b x => .bool x
  | .i k n => .int k n
  | .s x => .string x
  | _ => undef
def plain : AV → Bool
  | .tt | .ff | .b _ | .i _ _ | .s _ => true
  | _ => false
theorem valOf_rel (c : Cx) {a : AV} (h : plain a = true) : RelV c a (valOf a) := by
  cases a <;> first
    | (simp [plain] at h; done)
    | (simp only [valOf, RelV]; done)
theorem valOf_eq {c : Cx} {a : AV} {u : Value} (h : plain a = true) (hr : RelV c a u) : u = valOf a := by
  cases a <;> first
    | (simp [plain] at h; done)
    | (simpa only [valOf, RelV] using hr)

theorem lop_bin {ox oy : Operand} {x y : X} {op : BinOp} {t t' : TypeId} (ho : o.op = .binOp op t ox oy t') (hx : convX ox = some x) (hy : convX oy = some y)
    (h : lop env H (.bin op x y) K) : ∃ v tch, K v tch ∧ Ylds P o (x.tmps ++ y.tmps) env H v tch := by
  obtain ⟨a, ha, hra⟩ := gx_sound hx h
  obtain ⟨b, hb, hrb⟩ := gx_sound hy ha
  have done : ∀ (y' : AV), plain a = true → plain b = true → plain y' = true → K y' none → (∀ w : World, ((eqGuard op t ox oy (valOf a) (valOf b)).run P w) = .ok () w) →
      (∀ w : World, (binOp op t (valOf a) (valOf b)).run P w = .ok (valOf y') w) → ∃ v tch, K v tch ∧ Ylds P o (x.tmps ++ y.tmps) env H v tch := by
    intro y' p1 p2 p3 hk h3 h4
    refine ⟨y', none, hk, fun c act hkn _ => ⟨valOf y', ?_, valOf_rel c p3⟩⟩
    have e1 := valOf_eq p1 (hra c act (hkn.sub fun t ht => by simp [ht]))
    have e2 := valOf_eq p2 (hrb c act (hkn.sub fun t ht => by simp [ht]))
    simp [execOp, ho, e1, e2, h3, h4]
  have gi : ∀ (k j : IntKind) (p q : Int) (w : World), (eqGuard op t ox oy (.int k p) (.int j q)).run P w = .ok () w := by
    intro k j p q w
    unfold eqGuard
    split <;> simp
  have gs : ∀ (p q : ByteArray) (w : World), (eqGuard op t ox oy (.string p) (.string q)).run P w = .ok () w := by
    intro p q w
    unfold eqGuard
    split <;> simp
  unfold avBin at hb
  cases a with
  | i k p =>
    cases b with
    | i j q =>
      cases op
      case shl =>
        obtain ⟨h0, hb⟩ := hb
        exact done _ rfl rfl rfl hb (gi _ _ _ _) (fun w => by simp [binOp, Op.shift, valOf, show ¬ q < 0 by omega])
      case shr =>
        obtain ⟨h0, hb⟩ := hb
        exact done _ rfl rfl rfl hb (gi _ _ _ _) (fun w => by simp [binOp, Op.shift, valOf, show ¬ q < 0 by omega])
      all_goals
        simp only at hb
        cases hkj : decide (k = j) with
        | false => simp [hkj] at hb
        | true =>
          simp only [hkj] at hb
          obtain rfl := of_decide_eq_true hkj
          simp only [intBin] at hb
          first
            | exact done _ rfl rfl rfl hb (gi _ _ _ _) (fun w => by simp [binOp, Op.intArith, Op.intCmp, Op.intBits, valOf])
            | (cases hq0 : decide (q = 0) with
              | true => simp [hq0] at hb
              | false =>
                simp only [hq0] at hb
                exact done _ rfl rfl rfl hb (gi _ _ _ _) (fun w => by simp [binOp, Op.intDiv, valOf, of_decide_eq_false hq0]))
    | _ => exact hb.elim
  | s p =>
    cases b with
    | s q =>
      simp only [strBin] at hb
      cases op
      case add =>
        obtain ⟨h0, hb⟩ := hb
        have h0' : ¬ (((p.size + q.size : Nat) : Int) > IntKind.i64.max) := by
          have : IntKind.i64.max = 9223372036854775807 := by rfl
          rw [this]
          omega
        exact done _ rfl rfl rfl hb (gs _ _) (fun w => by simp only [binOp, Op.stringOp, valOf, if_neg h0', Sem.run_pure])
      all_goals first
        | exact hb.elim
        | exact done _ rfl rfl rfl hb (gs _ _) (fun w => by simp [binOp, Op.stringOp, valOf])
    | _ => exact hb.elim
  | _ => exact hb.elim

theorem boolOf_spec {c : Cx} {a : AV} {p : Bool} {u : Value} (h : boolOf a = some p) (hr : RelV c a u) : u = .bool p := by
  cases a with
  | tt => simp [boolOf] at h; subst h; simpa [RelV] using hr
  | ff => simp [boolOf] at h; subst h; simpa [RelV] using hr
  | b y => simp [boolOf] at h; subst h; simpa [RelV] using hr
  | _ => simp [boolOf] at h

theorem lop_eqB {ox oy : Operand} {x y : X} {ne : Bool} {t t' : TypeId} (ho : o.op = .binOp (if ne then .neq else .eql) t ox oy t') (ht : P.underlying t = some .bool)
    (hx : convX ox = some x) (hy : convX oy = some y) (h : lop env H (.eqB ne x y) K) : ∃ v tch, K v tch ∧ Ylds P o (x.tmps ++ y.tmps) env H v tch := by
  obtain ⟨a, ha, hra⟩ := gx_sound hx h
  obtain ⟨b, hb, hrb⟩ := gx_sound hy ha
  cases hp : boolOf a with
  | none => simp [hp] at hb
  | some p =>
    cases hq : boolOf b with
    | none => simp [hp, hq] at hb
    | some q =>
      simp only [hp, hq] at hb
      have hd : ∀ (d : Nat) (w : World), (Op.equalIn (d + 1) t (.bool p) (.bool q)).run P w = .ok (p == q) w := fun d w => by
        simp [Op.equalIn, run_underlying ht]
      have he : ∀ w : World, (Op.equal t (.bool p) (.bool q)).run P w = .ok (p == q) w := fun w => by
        unfold Op.equal Op.maxDepth
        exact hd 9999 w
      cases ne with
      | true =>
        refine ⟨_, none, hb, fun c act hk _ => ⟨.bool (!(p == q)), ?_, by simp [RelV]⟩⟩
        have e1 := boolOf_spec hp (hra c act (hk.sub fun t ht => by simp [ht]))
        have e2 := boolOf_spec hq (hrb c act (hk.sub fun t ht => by simp [ht]))
        simp [execOp, ho, e1, e2, eqGuard, binOp, he]
      | false =>
        refine ⟨_, none, hb, fun c act hk _ => ⟨.bool (p == q), ?_, by simp [RelV]⟩⟩
        have e1 := boolOf_spec hp (hra c act (hk.sub fun t ht => by simp [ht]))
        have e2 := boolOf_spec hq (hrb c act (hk.sub fun t ht => by simp [ht]))
        simp [execOp, ho, e1, e2, eqGuard, binOp, he]

theorem lop_un {ox : Operand} {x : X} {op : UnOp} {t : TypeId} (ho : o.op = .unOp op t ox) (hx : convX ox = some x)
    (h : lop env H (.un op x) K) : ∃ v tch, K v tch ∧ Ylds P o x.tmps env H v tch := by
  obtain ⟨a, ha, hra⟩ := gx_sound hx h
  have done : ∀ (y' : AV), plain a = true → plain y' = true → K y' none → (∀ w : World, (Op.unary op (valOf a)).run P w = .ok (valOf y') w) →
      ∃ v tch, K v tch ∧ Ylds P o x.tmps env H v tch := by
    intro y' p1 p3 hk h4
    refine ⟨y', none, hk, fun c act hkn _ => ⟨valOf y', ?_, valOf_rel c p3⟩⟩
    simp [execOp, ho, valOf_eq p1 (hra c act hkn), h4]
  unfold avUn at ha
  cases op <;> cases a <;> first
    | exact ha.elim
    | exact done _ rfl rfl ha (fun w => by simp [Op.unary, Op.intArith, Op.intBits, valOf])

theorem lop_conv {ox : Operand} {x : X} {k : IntKind} {t t' : TypeId} {s : IntKind} (ho : o.op = .convert t t' ox) (ht : P.underlying t = some (.int s)) (ht' : P.underlying t' = some (.int k)) (hx : convX ox = some x)
    (h : lop env H (.conv k x) K) : ∃ v tch, K v tch ∧ Ylds P o x.tmps env H v tch := by
  obtain ⟨a, ha, hra⟩ := gx_sound hx h
  cases a with
  | i j n =>
    refine ⟨_, none, ha, fun c act hk _ => ⟨.int k (k.wrap n), ?_, by simp [RelV]⟩⟩
    have e : act.eval ox = .int j n := by simpa [RelV] using hra c act hk
    simp [execOp, ho, convert, run_underlying ht, run_underlying ht', e, Conv.intToInt]
  | _ => exact ha.elim

theorem lop_convS {ox : Operand} {x : X} {t t' : TypeId} (ho : o.op = .convert t t' ox) (ht : P.underlying t = some .string) (ht' : P.underlying t' = some .string) (hx : convX ox = some x)
    (h : lop env H (.slcS x none none) K) : ∃ v tch, K v tch ∧ Ylds P o x.tmps env H v tch := by
  obtain ⟨a, ha, hra⟩ := gx_sound hx h
  cases a with
  | s y =>
    simp only [Go.Hb.part] at ha
    refine ⟨_, none, ha, fun c act hk _ => ⟨.string y, ?_, ?_⟩⟩
    · have e : act.eval ox = .string y := by simpa [RelV] using hra c act hk
      simp [execOp, ho, convert, run_underlying ht, run_underlying ht', e]
    · simp only [RelV]
      congr 1
      exact (ByteArray.extract_zero_size).symm
  | _ => exact ha.elim

theorem lop_ext {ox : Operand} {x : X} {i : Nat} (ho : o.op = .extract ox i) (hx : convX ox = some x)
    (h : lop env H (.ext x i) K) : ∃ v tch, K v tch ∧ Ylds P o x.tmps env H v tch := by
  obtain ⟨a, ha, hra⟩ := gx_sound hx h
  cases a with
  | tup l =>
    simp only at ha
    cases hl : l[i]? with
    | none => simp [hl] at ha
    | some b =>
      simp only [hl] at ha
      refine ⟨b, none, ha, fun c act hk _ => ?_⟩
      have hr := hra c act hk
      simp only [RelV] at hr
      obtain ⟨vs, e, hr⟩ := hr
      obtain ⟨u, hu, hru⟩ := RelVs_get hr i b hl
      refine ⟨u, ?_, hru⟩
      have hu' : vs[i]? = some u := by simpa using hu
      simp [execOp, ho, e, Instr.extract, hu']
  | _ => exact ha.elim

end
end Go.Hb

namespace Go.Hb
open Go.RowKit

section
variable {P : Program} {env : List (Nat × AV)} {H : List (Nat × Blk)} {K : AV → Option Nat → Prop} {o : Oper}

/-- Where a field lies: its offset; that it isn't empty. -/
def tField (P : Program) (t : TypeId) (f : Nat) : Option (Nat × TypeId) :=
  match P.underlying t with
  | some (.struct fs) => (fs[f]?).map fun x => (x.offset, x.type)
  | _ => none

theorem lop_faddr {ox : Operand} {x : X} {t ft : TypeId} {f off n : Nat} (ho : o.op = .fieldAddr t ox f) (hf : tField P t f = some (off, ft)) (hn : tSize P ft = some n) (hpos : n ≠ 0) (hx : convX ox = some x)
    (h : lop env H (.faddr off x) K) : ∃ v tch, K v tch ∧ Ylds P o x.tmps env H v tch := by
  obtain ⟨a, ha, hra⟩ := gx_sound hx h
  have hrun : ∀ (w : World) (ad : Addr), (Instr.fieldAt t (.pointer (some ad)) f).run P w = .ok (.pointer (some (ad.add off))) w := by
    intro w ad
    unfold tField at hf
    split at hf
    · rename_i fs hu
      obtain ⟨fd, hfd, he⟩ := Option.map_eq_some_iff.1 hf
      cases he
      simp [Instr.fieldAt, run_underlying hu, hfd, Instr.sureAddr, fieldPlace, sizeOf_run hn, hpos]
    · cases hf
  cases a with
  | p id k =>
    refine ⟨_, none, ha, fun c act hk _ => ?_⟩
    have hr := hra c act hk
    simp only [RelV] at hr ⊢
    obtain ⟨b, hl, e⟩ := hr
    refine ⟨_, ?_, b, hl, rfl⟩
    simp only [execOp, ho, e, Sem.run_bind, hrun, Result.andThen_ok, add_plain, Sem.run_pure]
  | pr id size i j =>
    refine ⟨_, none, ha, fun c act hk _ => ?_⟩
    have hr := hra c act hk
    simp only [RelV] at hr ⊢
    obtain ⟨b, hl, e⟩ := hr
    refine ⟨_, ?_, b, hl, rfl⟩
    simp only [execOp, ho, e, Sem.run_bind, hrun, Result.andThen_ok, add_plain, Sem.run_pure, Nat.add_assoc]
  | fe size cell j =>
    simp only at ha
    cases hb : Nat.ble (j + off + 1) size with
    | false => simp [hb] at ha
    | true =>
      simp only [hb] at ha
      refine ⟨_, none, ha, fun c act hk _ => ?_⟩
      have hr := hra c act hk
      simp only [RelV] at hr ⊢
      obtain ⟨ad, e, hI, hc⟩ := hr
      refine ⟨.pointer (some (ad.add off)), ?_, ad.add off, rfl, by rw [block_of_add]; exact hI, fun k hk => ?_⟩
      · simp only [execOp, ho, e, Sem.run_bind, hrun, Result.andThen_ok, Sem.run_pure]
      · rw [add_of_add, Nat.add_assoc]
        exact hc (off + k) (by omega)
  | _ => exact ha.elim

theorem array_extract_rel {c : Cx} {cs : List AV} {vs : Array Value} {off sz : Nat} {l : List AV} (h : RelVs c cs vs.toList) (ht : takeAt cs off sz = some l) : RelVs c l (vs.extract off (off + sz)).toList := by
  obtain ⟨hlen, hget⟩ := takeAt_spec ht
  have hvl := RelVs_length h
  have hle : off + sz ≤ cs.length ∨ sz = 0 := by
    rcases Nat.eq_zero_or_pos sz with h0 | h0
    · exact .inr h0
    · left
      have : l[sz - 1]? = some (l[sz-1]'(by omega)) := List.getElem?_eq_getElem _
      have := hget _ _ this
      have := (List.getElem?_eq_some_iff.1 this).1
      omega
  have hsz : vs.size = cs.length := by simpa using hvl
  refine RelVs_of (by simp; omega) fun i a v ha hv => ?_
  have hi : i < sz := by
    have := (List.getElem?_eq_some_iff.1 ha).1
    omega
  obtain ⟨u, hu, hr⟩ := RelVs_get h _ _ (hget i a ha)
  have : (vs.extract off (off + sz)).toList[i]? = vs.toList[off + i]? := by
    simp [List.getElem?_take, hi]
  rw [this] at hv
  rw [hu] at hv
  cases hv
  exact hr

theorem lop_field {ox : Operand} {x : X} {t ft : TypeId} {f off n : Nat} {ag : Bool} (ho : o.op = .field t ox f) (hf : tField P t f = some (off, ft)) (hag : tAgg P ft = some ag) (hn : tSize P ft = some n) (hx : convX ox = some x)
    (h : lop env H (.field off n ag x) K) : ∃ v tch, K v tch ∧ Ylds P o x.tmps env H v tch := by
  obtain ⟨a, ha, hra⟩ := gx_sound hx h
  cases a with
  | agg cs =>
    simp only at ha
    have hu : ∃ fs, P.underlying t = some (.struct fs) ∧ ∃ fd, fs[f]? = some fd ∧ fd.offset = off ∧ fd.type = ft := by
      unfold tField at hf
      split at hf
      · rename_i fs hu
        obtain ⟨fd, hfd, he⟩ := Option.map_eq_some_iff.1 hf
        cases he
        exact ⟨fs, hu, fd, hfd, rfl, rfl⟩
      · cases hf
    obtain ⟨fs, hu, fd, hfd, rfl, rfl⟩ := hu
    cases ag with
    | true =>
      simp only at ha
      cases ht : takeAt cs fd.offset n with
      | none => simp [ht] at ha
      | some l =>
        simp only [ht] at ha
        refine ⟨_, none, ha, fun c act hk _ => ?_⟩
        have hr := hra c act hk
        simp only [RelV] at hr ⊢
        obtain ⟨vs, e, hr⟩ := hr
        refine ⟨_, ?_, vs.extract fd.offset (fd.offset + n), rfl, array_extract_rel hr ht⟩
        simp [execOp, ho, e, Instr.field, run_underlying hu, hfd, asAgg, Go.part, isAgg_run hag, sizeOf_run hn]
    | false =>
      simp only at ha
      cases ht : cs[fd.offset]? with
      | none => simp [ht] at ha
      | some l =>
        simp only [ht] at ha
        refine ⟨_, none, ha, fun c act hk _ => ?_⟩
        have hr := hra c act hk
        simp only [RelV] at hr
        obtain ⟨vs, e, hr⟩ := hr
        obtain ⟨u, hu', hru⟩ := RelVs_get hr _ _ ht
        have hu'' : vs[fd.offset]? = some u := by simpa using hu'
        refine ⟨u, ?_, hru⟩
        simp [execOp, ho, e, Instr.field, run_underlying hu, hfd, asAgg, Go.part, isAgg_run hag, hu'']
  | _ => exact ha.elim

def tSlice (P : Program) (t : TypeId) : Option TypeId :=
  match P.underlying t with
  | some (.slice e) => some e
  | _ => none
def tArray (P : Program) (t : TypeId) : Option (Nat × TypeId) :=
  match P.underlying t with
  | some (.array n e) => some (n, e)
  | _ => none
theorem tSlice_spec {t e : TypeId} (h : tSlice P t = some e) : P.underlying t = some (.slice e) := by
  unfold tSlice at h
  split at h
  · rename_i hu; cases h; exact hu
  · cases h
theorem tArray_spec {t e : TypeId} {n : Nat} (h : tArray P t = some (n, e)) : P.underlying t = some (.array n e) := by
  unfold tArray at h
  split at h
  · rename_i hu; cases h; exact hu
  · cases h

theorem lop_iaddr {ox oi : Operand} {x i : X} {t e : TypeId} {size : Nat} (ho : o.op = .indexAddr t ox oi) (ht : tSlice P t = some e) (hs : tSize P e = some size) (hx : convX ox = some x) (hi : convX oi = some i)
    (h : lop env H (.iaddr size x i) K) : ∃ v tch, K v tch ∧ Ylds P o (x.tmps ++ i.tmps) env H v tch := by
  obtain ⟨a, ha, hra⟩ := gx_sound hx h
  obtain ⟨b, hb, hrb⟩ := gx_sound hi ha
  have hu := tSlice_spec ht
  have hrun : ∀ (w : World) (k : IntKind) (m : Nat) (ad : Addr) (n cap : Nat), m < n →
      (Instr.indexAt t (.slice (some ad) n cap) (.int k (m : Int))).run P w = .ok (.pointer (some (ad.add (m * size)))) w := by
    intro w k m ad n cap hm
    simp [Instr.indexAt, asIntOf, run_underlying hu, sizeOf_run hs, hm]
  cases b with
  | i k z =>
    have eb : ∀ (c : Cx) (act : Act), Known c env act.tmps (x.tmps ++ i.tmps) → act.eval oi = .int k z := fun c act hk => by
      have := hrb c act (hk.sub fun t ht => by simp [ht])
      simpa [RelV] using this
    cases a with
    | fs n size' cell =>
      simp only at hb
      cases hbq : Nat.beq size size' with
      | false => simp [hbq] at hb
      | true =>
        obtain rfl := Nat.eq_of_beq_eq_true hbq
        simp only [hbq] at hb
        obtain ⟨m, rfl, hm, hb⟩ := hb
        refine ⟨_, none, hb, fun c act hk _ => ?_⟩
        have hr := hra c act (hk.sub fun t ht => by simp [ht])
        simp only [RelV] at hr ⊢
        obtain ⟨A, cap, e1, hcap, hcell⟩ := hr
        obtain ⟨ad, rfl, hI, hcell⟩ := hcell (by omega)
        refine ⟨_, ?_, ad.add (m * size), rfl, by rw [block_of_add]; exact hI, fun q hq => ?_⟩
        · simp only [execOp, ho, e1, eb c act hk, Sem.run_bind, hrun _ _ _ _ _ _ hm, Result.andThen_ok, Sem.run_pure]
        · rw [add_of_add]
          simpa using hcell m q hm (by omega)
    | sl id size' start n =>
      simp only at hb
      cases hbq : Nat.beq size size' with
      | false => simp [hbq] at hb
      | true =>
        obtain rfl := Nat.eq_of_beq_eq_true hbq
        simp only [hbq] at hb
        obtain ⟨m, rfl, hm, hb⟩ := hb
        refine ⟨_, none, hb, fun c act hk _ => ?_⟩
        have hr := hra c act (hk.sub fun t ht => by simp [ht])
        simp only [RelV] at hr ⊢
        obtain ⟨bl, cap, off, hl, e1, hcap, hoff, _⟩ := hr.resolve_left (fun h => by have := h.1; omega)
        refine ⟨.pointer (some ⟨bl, (start + m) * size + 0, none⟩), ?_, bl, hl, rfl⟩
        simp only [execOp, ho, e1, eb c act hk, Sem.run_bind, hrun _ _ _ _ _ _ hm, Result.andThen_ok, Sem.run_pure, add_plain, hoff (by omega), Nat.add_mul, Nat.add_zero]
    | sa id size' off n =>
      simp only at hb
      cases hbq : Nat.beq size size' with
      | false => simp [hbq] at hb
      | true =>
        obtain rfl := Nat.eq_of_beq_eq_true hbq
        simp only [hbq] at hb
        obtain ⟨m, rfl, hm, hb⟩ := hb
        refine ⟨_, none, hb, fun c act hk _ => ?_⟩
        have hr := hra c act (hk.sub fun t ht => by simp [ht])
        simp only [RelV] at hr ⊢
        obtain ⟨bl, cap, off', hl, e1, hcap, hoff, _⟩ := hr
        refine ⟨.pointer (some ⟨bl, off + m * size, none⟩), ?_, bl, hl, rfl⟩
        simp only [execOp, ho, e1, eb c act hk, Sem.run_bind, hrun _ _ _ _ _ _ hm, Result.andThen_ok, Sem.run_pure, add_plain, hoff (by omega)]
    | sk id size' start n cap =>
      simp only at hb
      cases hbq : Nat.beq size size' with
      | false => simp [hbq] at hb
      | true =>
        obtain rfl := Nat.eq_of_beq_eq_true hbq
        simp only [hbq] at hb
        obtain ⟨m, rfl, hm, hb⟩ := hb
        refine ⟨_, none, hb, fun c act hk _ => ?_⟩
        have hr := hra c act (hk.sub fun t ht => by simp [ht])
        simp only [RelV] at hr ⊢
        obtain ⟨bl, off, hl, e1, hcap, hoff, _⟩ := hr
        refine ⟨.pointer (some ⟨bl, (start + m) * size + 0, none⟩), ?_, bl, hl, rfl⟩
        simp only [execOp, ho, e1, eb c act hk, Sem.run_bind, hrun _ _ _ _ _ _ hm, Result.andThen_ok, Sem.run_pure, add_plain, hoff (by omega), Nat.add_mul, Nat.add_zero]
    | _ => exact hb.elim
  | _ => exact hb.elim

theorem lop_iaddrA {ox oi : Operand} {x i : X} {t e : TypeId} {size n : Nat} (ho : o.op = .indexAddr t ox oi) (ht : tArray P t = some (n, e)) (hs : tSize P e = some size) (hx : convX ox = some x) (hi : convX oi = some i)
    (h : lop env H (.iaddrA n size x i) K) : ∃ v tch, K v tch ∧ Ylds P o (x.tmps ++ i.tmps) env H v tch := by
  obtain ⟨a, ha, hra⟩ := gx_sound hx h
  obtain ⟨b, hb, hrb⟩ := gx_sound hi ha
  have hu := tArray_spec ht
  have hrun : ∀ (w : World) (k : IntKind) (m : Nat) (ad : Addr), m < n →
      (Instr.indexAt t (.pointer (some ad)) (.int k (m : Int))).run P w = .ok (.pointer (some (ad.add (m * size)))) w := by
    intro w k m ad hm
    simp [Instr.indexAt, asIntOf, run_underlying hu, sizeOf_run hs, hm, Instr.sureAddr]
  cases b with
  | i k z =>
    have eb : ∀ (c : Cx) (act : Act), Known c env act.tmps (x.tmps ++ i.tmps) → act.eval oi = .int k z := fun c act hk => by
      have := hrb c act (hk.sub fun t ht => by simp [ht])
      simpa [RelV] using this
    cases a with
    | p id q =>
      simp only at hb
      have plain : (∃ m : Nat, z = (m : Int) ∧ m < n ∧ K (.p id (q + m * size)) none) → ∃ v tch, K v tch ∧ Ylds P o (x.tmps ++ i.tmps) env H v tch := by
        rintro ⟨m, rfl, hm, hb⟩
        refine ⟨_, none, hb, fun c act hk _ => ?_⟩
        have hr := hra c act (hk.sub fun t ht => by simp [ht])
        simp only [RelV] at hr ⊢
        obtain ⟨bl, hl, e1⟩ := hr
        refine ⟨.pointer (some ⟨bl, q + m * size, none⟩), ?_, bl, hl, rfl⟩
        simp only [execOp, ho, e1, eb c act hk, Sem.run_bind, hrun _ _ _ _ hm, Result.andThen_ok, Sem.run_pure, add_plain]
      cases hl : lk id H with
      | none => simp only [hl] at hb; exact plain hb
      | some blk =>
        cases blk with
        | rows n' size' cell =>
          simp only [hl] at hb
          cases h1 : Nat.beq size size' with
          | false => simp [h1] at hb
          | true =>
            cases h2 : Nat.beq q 0 with
            | false => simp [h1, h2] at hb
            | true =>
              obtain rfl := Nat.eq_of_beq_eq_true h1
              obtain rfl := Nat.eq_of_beq_eq_true h2
              simp only [h1, h2] at hb
              obtain ⟨m, rfl, hm, hb⟩ := hb
              refine ⟨_, none, hb, fun c act hk _ => ?_⟩
              have hr := hra c act (hk.sub fun t ht => by simp [ht])
              simp only [RelV] at hr ⊢
              obtain ⟨bl, hl, e1⟩ := hr
              refine ⟨.pointer (some ⟨bl, m * size + 0, none⟩), ?_, bl, hl, rfl⟩
              simp only [execOp, ho, e1, eb c act hk, Sem.run_bind, hrun _ _ _ _ hm, Result.andThen_ok, Sem.run_pure, add_plain, Nat.zero_add, Nat.add_zero]
        | lit cs => simp only [hl] at hb; exact plain hb
        | dead => simp only [hl] at hb; exact plain hb
    | pr id size' i' j =>
      obtain ⟨m, rfl, hm, hb⟩ := hb
      refine ⟨_, none, hb, fun c act hk _ => ?_⟩
      have hr := hra c act (hk.sub fun t ht => by simp [ht])
      simp only [RelV] at hr ⊢
      obtain ⟨bl, hl, e1⟩ := hr
      refine ⟨.pointer (some ⟨bl, i' * size' + (j + m * size), none⟩), ?_, bl, hl, rfl⟩
      simp only [execOp, ho, e1, eb c act hk, Sem.run_bind, hrun _ _ _ _ hm, Result.andThen_ok, Sem.run_pure, add_plain, Nat.add_assoc]
    | fe size' cell j =>
      obtain ⟨m, rfl, hm, hlt, hb⟩ := hb
      refine ⟨_, none, hb, fun c act hk _ => ?_⟩
      have hr := hra c act (hk.sub fun t ht => by simp [ht])
      simp only [RelV] at hr ⊢
      obtain ⟨ad, e1, hI, hc⟩ := hr
      refine ⟨.pointer (some (ad.add (m * size))), ?_, ad.add (m * size), rfl, by rw [block_of_add]; exact hI, fun r hr => ?_⟩
      · simp only [execOp, ho, e1, eb c act hk, Sem.run_bind, hrun _ _ _ _ hm, Result.andThen_ok, Sem.run_pure]
      · rw [add_of_add, Nat.add_assoc]
        exact hc _ (by omega)
    | _ => exact hb.elim
  | _ => exact hb.elim

theorem lop_idxS {ox oi : Operand} {x i : X} {t : TypeId} (ho : o.op = .index t ox oi) (ht : P.underlying t = some .string) (hx : convX ox = some x) (hi : convX oi = some i)
    (h : lop env H (.idxS x i) K) : ∃ v tch, K v tch ∧ Ylds P o (x.tmps ++ i.tmps) env H v tch := by
  obtain ⟨a, ha, hra⟩ := gx_sound hx h
  obtain ⟨b, hb, hrb⟩ := gx_sound hi ha
  cases a with
  | s s =>
    cases b with
    | i k z =>
      obtain ⟨m, rfl, hm, hb⟩ := hb
      refine ⟨_, none, hb, fun c act hk _ => ⟨.int .u8 ((s[m]'hm).toNat : Int), ?_, by simp [RelV]⟩⟩
      have e1 : act.eval ox = .string s := by simpa [RelV] using hra c act (hk.sub fun t ht => by simp [ht])
      have e2 : act.eval oi = .int k m := by simpa [RelV] using hrb c act (hk.sub fun t ht => by simp [ht])
      have : s[m]? = some (s[m]'hm) := by simp [hm]
      simp [execOp, ho, e1, e2, Instr.index, asIntOf, run_underlying ht, hm]
    | _ => exact hb.elim
  | _ => cases b <;> exact hb.elim

theorem lop_lenS {ox : Operand} {x : X} {t : TypeId} (ho : o.op = .call { callee := .builtin .len, args := #[ox], argTypes := #[t] }) (ht : P.underlying t = some .string) (hx : convX ox = some x)
    (h : lop env H (.len true x) K) : ∃ v tch, K v tch ∧ Ylds P o x.tmps env H v tch := by
  obtain ⟨a, ha, hra⟩ := gx_sound hx h
  cases a with
  | s s =>
    refine ⟨_, none, ha, fun c act hk _ => ⟨.int .i64 (s.size : Int), ?_, by simp [RelV]⟩⟩
    have e : act.eval ox = .string s := by simpa [RelV] using hra c act hk
    simp [execOp, ho, resolve, invoke, builtin, Builtin.len_, e, run_underlying ht, goInt]
  | _ => exact ha.elim

theorem lop_lenL {ox : Operand} {x : X} {t el : TypeId} (ho : o.op = .call { callee := .builtin .len, args := #[ox], argTypes := #[t] }) (ht : tSlice P t = some el) (hx : convX ox = some x)
    (h : lop env H (.len false x) K) : ∃ v tch, K v tch ∧ Ylds P o x.tmps env H v tch := by
  obtain ⟨a, ha, hra⟩ := gx_sound hx h
  have done : ∀ (n : Nat), K (.i .i64 (n : Int)) none → (∀ (c : Cx) u, RelV c a u → ∃ A cap, u = .slice A n cap) → ∃ v tch, K v tch ∧ Ylds P o x.tmps env H v tch := by
    intro n hk hs
    refine ⟨_, none, hk, fun c act hkn _ => ⟨.int .i64 (n : Int), ?_, by simp [RelV]⟩⟩
    obtain ⟨A, cap, e⟩ := hs c _ (hra c act hkn)
    simp [execOp, ho, resolve, invoke, builtin, Builtin.len_, e, run_underlying (tSlice_spec ht), goInt]
  cases a with
  | fs n size cell => exact done n ha fun c u hu => by simp only [RelV] at hu; obtain ⟨A, cap, e, _⟩ := hu; exact ⟨A, cap, e⟩
  | nils => exact done 0 ha fun c u hu => by simp only [RelV] at hu; exact ⟨none, 0, hu⟩
  | sl id size st n =>
    exact done n ha fun c u hu => by
      simp only [RelV] at hu
      rcases hu with ⟨rfl, e⟩ | ⟨b, cap, off, _, e, _⟩
      · exact ⟨none, 0, e⟩
      · exact ⟨_, cap, e⟩
  | sa id size st n => exact done n ha fun c u hu => by simp only [RelV] at hu; obtain ⟨b, cap, off, _, e, _⟩ := hu; exact ⟨_, cap, e⟩
  | sk id size st n cap => exact done n ha fun c u hu => by simp only [RelV] at hu; obtain ⟨b, off, _, e, _⟩ := hu; exact ⟨_, cap, e⟩
  | _ => exact ha.elim

def convXo : Option Operand → Option (Option X)
  | none => some none
  | some o => (convX o).map some
def tmpsO : Option X → List Nat
  | none => []
  | some x => x.tmps

theorem part_sound {n : Nat} {lo hi : Option X} {olo ohi : Option Operand} {K' : Nat → Nat → Prop} (hl : convXo olo = some lo) (hh : convXo ohi = some hi) (h : Go.Hb.part env n lo hi K') :
    ∃ l u : Nat, l ≤ u ∧ u ≤ n ∧ K' l u ∧ ∀ (c : Cx) (act : Act), Known c env act.tmps (tmpsO lo ++ tmpsO hi) → ∀ (isSlice : Bool) (cap : Nat) (w : World), n ≤ cap →
      (Instr.sliceBounds isSlice n cap (olo.map act.eval) (ohi.map act.eval) none).run P w = .ok (l, u, cap) w := by
  have sb : ∀ (k : IntKind) (m y : Nat) (code : BoundsCode) (w : World), m ≤ y → (Instr.sliceBound (.int k (m : Int)) y code).run P w = .ok m w := by
    intro k m y code w hm
    simp [Instr.sliceBound, asIntOf, hm]
  cases olo with
  | none =>
    simp only [convXo, Option.some.injEq] at hl
    subst hl
    cases ohi with
    | none =>
      simp only [convXo, Option.some.injEq] at hh
      subst hh
      exact ⟨0, n, Nat.zero_le _, Nat.le_refl _, h, fun c act _ isS cap w _ => by simp [Instr.sliceBounds]⟩
    | some oh =>
      simp only [convXo, Option.map_eq_some_iff] at hh
      obtain ⟨xh, hxh, rfl⟩ := hh
      obtain ⟨v, hv, hr⟩ := gx_sound hxh h
      cases v with
      | i k z =>
        obtain ⟨u, rfl, hu, hK⟩ := hv
        refine ⟨0, u, Nat.zero_le _, hu, hK, fun c act hk isS cap w hc => ?_⟩
        have e : act.eval oh = .int k u := by simpa [RelV] using hr c act (hk.sub fun t ht => by simp [tmpsO, ht])
        simp [Instr.sliceBounds, e, sb _ _ _ _ _ (show u ≤ cap by omega)]
      | _ => exact hv.elim
  | some ol =>
    simp only [convXo, Option.map_eq_some_iff] at hl
    obtain ⟨xl, hxl, rfl⟩ := hl
    cases ohi with
    | none =>
      simp only [convXo, Option.some.injEq] at hh
      subst hh
      obtain ⟨v, hv, hr⟩ := gx_sound hxl h
      cases v with
      | i k z =>
        obtain ⟨l, rfl, hl, hK⟩ := hv
        refine ⟨l, n, hl, Nat.le_refl _, hK, fun c act hk isS cap w hc => ?_⟩
        have e : act.eval ol = .int k l := by simpa [RelV] using hr c act (hk.sub fun t ht => by simp [tmpsO, ht])
        simp [Instr.sliceBounds, e, sb _ _ _ _ _ hl]
      | _ => exact hv.elim
    | some oh =>
      simp only [convXo, Option.map_eq_some_iff] at hh
      obtain ⟨xh, hxh, rfl⟩ := hh
      obtain ⟨v, hv, hr⟩ := gx_sound hxl h
      obtain ⟨v', hv', hr'⟩ := gx_sound hxh hv
      cases v with
      | i k z =>
        cases v' with
        | i k' z' =>
          obtain ⟨l, u, rfl, rfl, hlu, hun, hK⟩ := hv'
          refine ⟨l, u, hlu, hun, hK, fun c act hk isS cap w hc => ?_⟩
          have e : act.eval ol = .int k l := by simpa [RelV] using hr c act (hk.sub fun t ht => by simp [tmpsO, ht])
          have e' : act.eval oh = .int k' u := by simpa [RelV] using hr' c act (hk.sub fun t ht => by simp [tmpsO, ht])
          simp [Instr.sliceBounds, e, e', sb _ _ _ _ _ (show u ≤ cap by omega), sb _ _ _ _ _ hlu]
        | _ => exact hv'.elim
      | _ => cases v' <;> exact hv'.elim

theorem partc_sound {n cap : Nat} {lo hi : Option X} {olo ohi : Option Operand} {K' : Nat → Nat → Prop} (hnc : n ≤ cap) (hl : convXo olo = some lo) (hh : convXo ohi = some hi) (h : partc env n cap lo hi K') :
    ∃ l u : Nat, l ≤ u ∧ u ≤ cap ∧ K' l u ∧ ∀ (c : Cx) (act : Act), Known c env act.tmps (tmpsO lo ++ tmpsO hi) → ∀ (w : World),
      (Instr.sliceBounds true n cap (olo.map act.eval) (ohi.map act.eval) none).run P w = .ok (l, u, cap) w ∧
      (ohi ≠ none → ∀ (mv : Value) (big : Nat), (Instr.sliceBound mv big .slice3Acap).run P w = .ok cap w → (Instr.sliceBounds true n big (olo.map act.eval) (ohi.map act.eval) (some mv)).run P w = .ok (l, u, cap) w) := by
  have sb : ∀ (k : IntKind) (m y : Nat) (code : BoundsCode) (w : World), m ≤ y → (Instr.sliceBound (.int k (m : Int)) y code).run P w = .ok m w := by
    intro k m y code w hm
    simp [Instr.sliceBound, asIntOf, hm]
  cases olo with
  | none =>
    simp only [convXo, Option.some.injEq] at hl
    subst hl
    cases ohi with
    | none =>
      simp only [convXo, Option.some.injEq] at hh
      subst hh
      exact ⟨0, n, Nat.zero_le _, hnc, h, fun c act _ w => ⟨by simp [Instr.sliceBounds], fun h => absurd rfl h⟩⟩
    | some oh =>
      simp only [convXo, Option.map_eq_some_iff] at hh
      obtain ⟨xh, hxh, rfl⟩ := hh
      obtain ⟨v, hv, hr⟩ := gx_sound hxh h
      cases v with
      | i k z =>
        obtain ⟨u, rfl, hu, hK⟩ := hv
        refine ⟨0, u, Nat.zero_le _, hu, hK, fun c act hk w => ?_⟩
        have e : act.eval oh = .int k u := by simpa [RelV] using hr c act (hk.sub fun t ht => by simp [tmpsO, ht])
        exact ⟨by simp [Instr.sliceBounds, e, sb _ _ _ _ _ hu], fun _ mv big hm => by simp [Instr.sliceBounds, e, hm, sb _ _ _ _ _ hu]⟩
      | _ => exact hv.elim
  | some ol =>
    simp only [convXo, Option.map_eq_some_iff] at hl
    obtain ⟨xl, hxl, rfl⟩ := hl
    cases ohi with
    | none =>
      simp only [convXo, Option.some.injEq] at hh
      subst hh
      obtain ⟨v, hv, hr⟩ := gx_sound hxl h
      cases v with
      | i k z =>
        obtain ⟨l, rfl, hl, hK⟩ := hv
        refine ⟨l, n, hl, hnc, hK, fun c act hk w => ?_⟩
        have e : act.eval ol = .int k l := by simpa [RelV] using hr c act (hk.sub fun t ht => by simp [tmpsO, ht])
        exact ⟨by simp [Instr.sliceBounds, e, sb _ _ _ _ _ hl], fun h => absurd rfl h⟩
      | _ => exact hv.elim
    | some oh =>
      simp only [convXo, Option.map_eq_some_iff] at hh
      obtain ⟨xh, hxh, rfl⟩ := hh
      obtain ⟨v, hv, hr⟩ := gx_sound hxl h
      obtain ⟨v', hv', hr'⟩ := gx_sound hxh hv
      cases v with
      | i k z =>
        cases v' with
        | i k' z' =>
          obtain ⟨l, u, rfl, rfl, hlu, hun, hK⟩ := hv'
          refine ⟨l, u, hlu, hun, hK, fun c act hk w => ?_⟩
          have e : act.eval ol = .int k l := by simpa [RelV] using hr c act (hk.sub fun t ht => by simp [tmpsO, ht])
          have e' : act.eval oh = .int k' u := by simpa [RelV] using hr' c act (hk.sub fun t ht => by simp [tmpsO, ht])
          exact ⟨by simp [Instr.sliceBounds, e, e', sb _ _ _ _ _ hun, sb _ _ _ _ _ hlu], fun _ mv big hm => by simp [Instr.sliceBounds, e, e', hm, sb _ _ _ _ _ hun, sb _ _ _ _ _ hlu]⟩
        | _ => exact hv'.elim
      | _ => cases v' <;> exact hv'.elim

theorem partc_some {n cap : Nat} {lo hi : Option X} {K' : Nat → Nat → Prop} (h : partc env n cap lo hi K') : ∃ l u, K' l u := by
  have gxe : ∀ {x : X} {K : AV → Prop}, gx env K x → ∃ v, K v := by
    intro x K h
    cases x with
    | t n =>
      simp only [gx] at h
      cases hl : lk n env with
      | none => simp [hl] at h
      | some v => simp only [hl] at h; exact ⟨v, h⟩
    | c v => exact ⟨v, h⟩
  cases lo with
  | none =>
    cases hi with
    | none => exact ⟨_, _, h⟩
    | some hi =>
      obtain ⟨v, h⟩ := gxe h
      cases v with
      | i k z => obtain ⟨u, _, _, h⟩ := h; exact ⟨_, _, h⟩
      | _ => exact h.elim
  | some lo =>
    cases hi with
    | none =>
      obtain ⟨v, h⟩ := gxe h
      cases v with
      | i k z => obtain ⟨u, _, _, h⟩ := h; exact ⟨_, _, h⟩
      | _ => exact h.elim
    | some hi =>
      obtain ⟨v, h⟩ := gxe h
      obtain ⟨v', h⟩ := gxe h
      cases v with
      | i k z =>
        cases v' with
        | i k' z' => obtain ⟨l, u, _, _, _, _, h⟩ := h; exact ⟨_, _, h⟩
        | _ => exact h.elim
      | _ => cases v' <;> exact h.elim

theorem lop_slcS {ox : Operand} {x : X} {t : TypeId} {olo ohi : Option Operand} {lo hi : Option X} (ho : o.op = .slice t ox olo ohi none) (ht : P.underlying t = some .string) (hx : convX ox = some x) (hl : convXo olo = some lo) (hh : convXo ohi = some hi)
    (h : lop env H (.slcS x lo hi) K) : ∃ v tch, K v tch ∧ Ylds P o (x.tmps ++ (tmpsO lo ++ tmpsO hi)) env H v tch := by
  obtain ⟨a, ha, hra⟩ := gx_sound hx h
  cases a with
  | s s =>
    obtain ⟨l, u, hlu, hun, hK, hr⟩ := part_sound (P := P) hl hh ha
    refine ⟨_, none, hK, fun c act hk _ => ⟨.string (s.extract l u), ?_, by simp [RelV]⟩⟩
    have e : act.eval ox = .string s := by simpa [RelV] using hra c act (hk.sub fun t ht => by simp [ht])
    have := hr c act (hk.sub fun t ht => by simp only [List.mem_append] at ht ⊢; exact .inr ht) false s.size c.w (Nat.le_refl _)
    simp [execOp, ho, Instr.sliceAt, Instr.slice, run_underlying ht, e, this]
  | _ => exact ha.elim

theorem lop_slc {ox : Operand} {x : X} {t el : TypeId} {size : Nat} {olo ohi : Option Operand} {lo hi : Option X} (ho : o.op = .slice t ox olo ohi none) (ht : tSlice P t = some el) (hs : tSize P el = some size) (hx : convX ox = some x) (hl : convXo olo = some lo) (hh : convXo ohi = some hi)
    (h : lop env H (.slc size x lo hi) K) : ∃ v tch, K v tch ∧ Ylds P o (x.tmps ++ (tmpsO lo ++ tmpsO hi)) env H v tch := by
  obtain ⟨a, ha, hra⟩ := gx_sound hx h
  have hu := tSlice_spec ht
  have hrun : ∀ (c : Cx) (act : Act) (A : Option Addr) (n cap l u : Nat), act.eval ox = .slice A n cap → (Instr.sliceBounds true n cap (olo.map act.eval) (ohi.map act.eval) none).run P c.w = .ok (l, u, cap) c.w →
      (execOp act.eval o).run P c.w = .ok (.value (.slice (if cap = l then A else A.map (·.add (l * size))) (u - l) (cap - l))) c.w := by
    intro c act A n cap l u e hb
    simp [execOp, ho, Instr.sliceAt, Instr.slice, run_underlying hu, e, hb, sizeOf_run hs]
  cases a with
  | fs n size' cell =>
    simp only at ha
    cases hq : Nat.beq size size' with
    | false => simp [hq] at ha
    | true =>
      obtain rfl := Nat.eq_of_beq_eq_true hq
      simp only [hq] at ha
      obtain ⟨l, u, hlu, hun, hK, hr⟩ := part_sound (P := P) hl hh ha
      refine ⟨_, none, hK, fun c act hk _ => ?_⟩
      have hrel := hra c act (hk.sub fun t ht => by simp [ht])
      simp only [RelV] at hrel ⊢
      obtain ⟨A, cap, e, hcap, hc⟩ := hrel
      have hb := hr c act (hk.sub fun t ht => by simp only [List.mem_append] at ht ⊢; exact .inr ht) true cap c.w hcap
      refine ⟨_, hrun c act A n cap l u e hb, _, _, rfl, by omega, fun hne => ?_⟩
      rw [if_neg (by omega)]
      obtain ⟨ad, rfl, hI, hcell⟩ := hc (by omega)
      refine ⟨ad.add (l * size), rfl, by rw [block_of_add]; exact hI, fun i j hi hj => ?_⟩
      rw [add_of_add]
      have := hcell (l + i) j (by omega) hj
      rwa [Nat.add_mul, Nat.add_assoc] at this
  | sl id size' start n =>
    simp only at ha
    cases hq : Nat.beq size size' with
    | false => simp [hq] at ha
    | true =>
      obtain rfl := Nat.eq_of_beq_eq_true hq
      simp only [hq] at ha
      obtain ⟨l, u, hlu, hun, hK, hr⟩ := part_sound (P := P) hl hh ha
      refine ⟨_, none, hK, fun c act hk _ => ?_⟩
      have hrel := hra c act (hk.sub fun t ht => by simp [ht])
      simp only [RelV] at hrel ⊢
      rcases hrel with ⟨rfl, e⟩ | ⟨b, cap, off, hloc, e, hcap, hoff, cs, ty, fr, hheap, hsz⟩
      · have hb := hr c act (hk.sub fun t ht => by simp only [List.mem_append] at ht ⊢; exact .inr ht) true 0 c.w (Nat.le_refl _)
        obtain rfl : u = 0 := by omega
        obtain rfl : l = 0 := by omega
        exact ⟨_, hrun c act none 0 0 0 0 e hb, by simp⟩
      have hb := hr c act (hk.sub fun t ht => by simp only [List.mem_append] at ht ⊢; exact .inr ht) true cap c.w hcap
      refine ⟨_, hrun c act _ n cap l u e hb, .inr ⟨b, cap - l, if cap = l then off else off + l * size, hloc, ?_, by omega, fun hne => ?_, cs, ty, fr, hheap, ?_⟩⟩
      · by_cases hcl : cap = l
        · simp [hcl]
        · simp [hcl, add_plain]
      · rw [if_neg (by omega), hoff (by omega), Nat.add_mul]
      · rw [show start + l + (cap - l) = start + cap by omega]; exact hsz
  | sa id size' start n =>
    simp only at ha
    cases hq : Nat.beq size size' with
    | false => simp [hq] at ha
    | true =>
      obtain rfl := Nat.eq_of_beq_eq_true hq
      simp only [hq] at ha
      obtain ⟨l, u, hlu, hun, hK, hr⟩ := part_sound (P := P) hl hh ha
      refine ⟨_, none, hK, fun c act hk _ => ?_⟩
      have hrel := hra c act (hk.sub fun t ht => by simp [ht])
      simp only [RelV] at hrel ⊢
      obtain ⟨b, cap, off, hloc, e, hcap, hoff, cs, ty, fr, hheap, hsz⟩ := hrel
      have hb := hr c act (hk.sub fun t ht => by simp only [List.mem_append] at ht ⊢; exact .inr ht) true cap c.w hcap
      refine ⟨_, hrun c act _ n cap l u e hb, b, cap - l, if cap = l then off else off + l * size, hloc, ?_, by omega, fun hne => ?_, cs, ty, fr, hheap, ?_⟩
      · by_cases hcl : cap = l
        · simp [hcl]
        · simp [hcl, add_plain]
      · rw [if_neg (by omega), hoff (by omega)]
      · have : l * size + (cap - l) * size = cap * size := by rw [← Nat.add_mul]; congr 1; omega
        omega
  | sk id size' start n cap =>
    simp only at ha
    cases hq : Nat.beq size size' with
    | false => simp [hq] at ha
    | true =>
      obtain rfl := Nat.eq_of_beq_eq_true hq
      simp only [hq] at ha
      by_cases hnc : n ≤ cap
      · obtain ⟨l, u, hlu, hun, hK, hr⟩ := partc_sound (P := P) hnc hl hh ha
        refine ⟨_, none, hK, fun c act hk _ => ?_⟩
        have hrel := hra c act (hk.sub fun t ht => by simp [ht])
        simp only [RelV] at hrel ⊢
        obtain ⟨b, off, hloc, e, hcap, hoff, cs, ty, fr, hheap, hsz⟩ := hrel
        have hb := (hr c act (hk.sub fun t ht => by simp only [List.mem_append] at ht ⊢; exact .inr ht) c.w).1
        refine ⟨_, hrun c act _ n cap l u e hb, b, if cap = l then off else off + l * size, hloc, ?_, by omega, fun hne => ?_, cs, ty, fr, hheap, ?_⟩
        · by_cases hcl : cap = l
          · simp [hcl]
          · simp [hcl, add_plain]
        · rw [if_neg (by omega), hoff (by omega), Nat.add_mul]
        · rw [show start + l + (cap - l) = start + cap by omega]; exact hsz
      · -- there is no such slice
        obtain ⟨l, u, hK⟩ := partc_some ha
        refine ⟨_, none, hK, fun c act hk _ => ?_⟩
        have hrel := hra c act (hk.sub fun t ht => by simp [ht])
        simp only [RelV] at hrel
        obtain ⟨b, off, hloc, e, hcap, _⟩ := hrel
        exact absurd hcap hnc
  | nils =>
    obtain ⟨l, u, hlu, hun, hK, hr⟩ := part_sound (P := P) hl hh ha
    refine ⟨_, none, hK, fun c act hk _ => ?_⟩
    have hrel := hra c act (hk.sub fun t ht => by simp [ht])
    simp only [RelV] at hrel ⊢
    have hb := hr c act (hk.sub fun t ht => by simp only [List.mem_append] at ht ⊢; exact .inr ht) true 0 c.w (Nat.le_refl _)
    obtain rfl : u = 0 := by omega
    obtain rfl : l = 0 := by omega
    exact ⟨_, hrun c act none 0 0 0 0 hrel hb, by simp⟩
  | _ => exact ha.elim

theorem lop_slcA {ox : Operand} {x : X} {t el : TypeId} {size n : Nat} {olo ohi : Option Operand} {lo hi : Option X} (ho : o.op = .slice t ox olo ohi none) (ht : tArray P t = some (n, el)) (hs : tSize P el = some size) (hx : convX ox = some x) (hl : convXo olo = some lo) (hh : convXo ohi = some hi)
    (h : lop env H (.slcA n size x lo hi) K) : ∃ v tch, K v tch ∧ Ylds P o (x.tmps ++ (tmpsO lo ++ tmpsO hi)) env H v tch := by
  obtain ⟨a, ha, hra⟩ := gx_sound hx h
  have hu := tArray_spec ht
  have hrun : ∀ (c : Cx) (act : Act) (A : Addr) (l u : Nat), act.eval ox = .pointer (some A) → (Instr.sliceBounds false n n (olo.map act.eval) (ohi.map act.eval) none).run P c.w = .ok (l, u, n) c.w →
      (execOp act.eval o).run P c.w = .ok (.value (.slice (some (if n = l then A else A.add (l * size))) (u - l) (n - l))) c.w := by
    intro c act A l u e hb
    simp [execOp, ho, Instr.sliceAt, Instr.sureAddr, run_underlying hu, e, hb, sizeOf_run hs]
  cases a with
  | p id k =>
    simp only at ha
    cases hl' : lk id H with
    | none => simp [hl'] at ha
    | some blk =>
      cases blk with
      | rows n' size' cell =>
        simp only [hl'] at ha
        cases h1 : Nat.beq size size' with
        | false => simp [h1] at ha
        | true =>
          cases h2 : Nat.beq k 0 with
          | false => simp [h1, h2] at ha
          | true =>
            cases h3 : Nat.beq n n' with
            | false => simp [h1, h2, h3] at ha
            | true =>
              obtain rfl := Nat.eq_of_beq_eq_true h1
              obtain rfl := Nat.eq_of_beq_eq_true h2
              obtain rfl := Nat.eq_of_beq_eq_true h3
              simp only [h1, h2, h3] at ha
              obtain ⟨l, u, hlu, hun, hK, hr⟩ := part_sound (P := P) hl hh ha
              refine ⟨_, some id, hK, fun c act hk htc => ?_⟩
              have hrel := hra c act (hk.sub fun t ht => by simp [ht])
              simp only [RelV] at hrel ⊢
              obtain ⟨b, hloc, e⟩ := hrel
              have e3 := htc id rfl _ _ hl' hloc
              obtain ⟨arr, ty, fr, hheap, _, hsz, _⟩ := e3
              have hb := hr c act (hk.sub fun t ht => by simp only [List.mem_append] at ht ⊢; exact .inr ht) false n c.w (Nat.le_refl _)
              refine ⟨_, hrun c act _ l u e hb, .inr ⟨b, n - l, if n = l then 0 else l * size, hloc, ?_, by omega, fun hne => ?_, arr, ty, fr, hheap, ?_⟩⟩
              · by_cases hcl : n = l
                · simp [hcl]
                · simp [hcl, add_plain]
              · rw [if_neg (by omega)]
              · rw [show l + (n - l) = n by omega]; exact hsz
      | lit cs =>
        simp only [hl'] at ha
        cases h1 : Nat.ble (k + n * size) cs.length with
        | false => simp [h1] at ha
        | true =>
          have hle := Nat.le_of_ble_eq_true h1
          simp only [h1] at ha
          obtain ⟨l, u, hlu, hun, hK, hr⟩ := part_sound (P := P) hl hh ha
          refine ⟨_, some id, hK, fun c act hk htc => ?_⟩
          have hrel := hra c act (hk.sub fun t ht => by simp [ht])
          simp only [RelV] at hrel ⊢
          obtain ⟨b, hloc, e⟩ := hrel
          have e3 := htc id rfl _ _ hl' hloc
          obtain ⟨arr, ty, fr, hheap, _, hrl⟩ := e3
          have hsz : arr.size = cs.length := by simpa using RelVs_length hrl
          have hb := hr c act (hk.sub fun t ht => by simp only [List.mem_append] at ht ⊢; exact .inr ht) false n c.w (Nat.le_refl _)
          refine ⟨_, hrun c act _ l u e hb, b, n - l, if n = l then k else k + l * size, hloc, ?_, by omega, fun hne => ?_, arr, ty, fr, hheap, ?_⟩
          · by_cases hcl : n = l
            · simp [hcl]
            · simp [hcl, add_plain]
          · rw [if_neg (by omega)]
          · have : l * size + (n - l) * size = n * size := by rw [← Nat.add_mul]; congr 1; omega
            omega
      | dead => simp [hl'] at ha
  | fe size' cell j =>
    simp only at ha
    cases h1 : Nat.ble (j + n * size) size' with
    | false => simp [h1] at ha
    | true =>
      have hle := Nat.le_of_ble_eq_true h1
      simp only [h1] at ha
      obtain ⟨l, u, hlu, hun, hK, hr⟩ := part_sound (P := P) hl hh ha
      refine ⟨_, none, hK, fun c act hk _ => ?_⟩
      have hrel := hra c act (hk.sub fun t ht => by simp [ht])
      simp only [RelV] at hrel ⊢
      obtain ⟨ad, e, hI, hc⟩ := hrel
      have hb := hr c act (hk.sub fun t ht => by simp only [List.mem_append] at ht ⊢; exact .inr ht) false n c.w (Nat.le_refl _)
      refine ⟨_, hrun c act _ l u e hb, _, _, rfl, by omega, fun hne => ?_⟩
      rw [if_neg (by omega)]
      refine ⟨_, rfl, by rw [block_of_add]; exact hI, fun i q hi hq => ?_⟩
      rw [add_of_add]
      have hlt : (l + i) * size + q < n * size := by
        have : (l + i + 1) * size ≤ n * size := Nat.mul_le_mul_right _ (by omega)
        rw [Nat.add_mul, Nat.one_mul] at this
        omega
      have this := hc ((l + i) * size + q) (by omega)
      have e1 : (l + i) * size + q = l * size + (i * size + q) := by rw [Nat.add_mul]; omega
      have e2 : j + (l + i) * size + q = j + (l * size + (i * size + q)) := by omega
      show ∃ u, _ ∧ RelC c.w c.I (cell (j + (l + i) * size + q)) u
      rw [e2]
      rw [e1] at this
      exact this
  | _ => exact ha.elim

theorem lop_mkfn {f : Fn} {ofst ocap : Array Operand} {first caps : List X} (ho : o.op = .makeFunc f ofst ocap) (hf : convXs ofst.toList = some first) (hc : convXs ocap.toList = some caps)
    (h : lop env H (.mkfn f first caps) K) : ∃ v tch, K v tch ∧ Ylds P o (tmpsOf first ++ tmpsOf caps) env H v tch := by
  obtain ⟨a, ha, hra⟩ := gxs_sound hf h
  obtain ⟨b, hb, hrb⟩ := gxs_sound hc ha
  refine ⟨_, none, hb, fun c act hk _ => ?_⟩
  have h1 := hra c act (hk.sub fun t ht => by simp [ht])
  have h2 := hrb c act (hk.sub fun t ht => by simp [ht])
  refine ⟨.func f (ofst.map act.eval) (ocap.map act.eval), ?_, ?_⟩
  · simp [execOp, ho, Instr.makeFunc]
  · simp only [RelV]
    exact ⟨_, _, rfl, by simpa using h1, by simpa using h2⟩

theorem lop_nilck {ox : Operand} {x : X} (ho : o.op = .nilCheck ox) (hx : convX ox = some x)
    (h : lop env H (.nilck x) K) : ∃ v tch, K v tch ∧ Ylds P o x.tmps env H v tch := by
  obtain ⟨a, ha, hra⟩ := gx_sound hx h
  have done : K a none → (∀ (c : Cx) u, RelV c a u → (∃ ad, u = .pointer (some ad)) ∨ (∃ g x y, u = .func (.func g) x y)) → ∃ v tch, K v tch ∧ Ylds P o x.tmps env H v tch := by
    intro hk hs
    refine ⟨_, none, hk, fun c act hkn _ => ⟨act.eval ox, ?_, hra c act hkn⟩⟩
    rcases hs c _ (hra c act hkn) with ⟨ad, e⟩ | ⟨g, x, y, e⟩ <;> simp [execOp, ho, e]
  cases a with
  | p id k => exact done ha fun c u hu => by simp only [RelV] at hu; obtain ⟨b, _, e⟩ := hu; exact .inl ⟨_, e⟩
  | pr id size i j => exact done ha fun c u hu => by simp only [RelV] at hu; obtain ⟨b, _, e⟩ := hu; exact .inl ⟨_, e⟩
  | fe size cell j => exact done ha fun c u hu => by simp only [RelV] at hu; obtain ⟨b, e, _⟩ := hu; exact .inl ⟨_, e⟩
  | fn f a b =>
    cases f with
    | func g => exact done ha fun c u hu => by simp only [RelV] at hu; obtain ⟨x, y, e, _⟩ := hu; exact .inr ⟨_, _, _, e⟩
    | _ => exact ha.elim
  | _ => exact ha.elim

end
end Go.Hb

namespace Go.Hb
open Go.RowKit

theorem cells_rel {c : Cx} {a : AV} {v : Value} (h : RelV c a v) : RelVs c a.cells v.cells.toList := by
  cases a with
  | agg xs =>
    simp only [RelV] at h
    obtain ⟨vs, rfl, h⟩ := h
    exact h
  | tt => have h' := h; simp only [RelV] at h; subst h; simp only [AV.cells, Value.cells, RelVs]; exact ⟨h', trivial⟩
  | ff => have h' := h; simp only [RelV] at h; subst h; simp only [AV.cells, Value.cells, RelVs]; exact ⟨h', trivial⟩
  | b x => have h' := h; simp only [RelV] at h; subst h; simp only [AV.cells, Value.cells, RelVs]; exact ⟨h', trivial⟩
  | i k x => have h' := h; simp only [RelV] at h; subst h; simp only [AV.cells, Value.cells, RelVs]; exact ⟨h', trivial⟩
  | s x => have h' := h; simp only [RelV] at h; subst h; simp only [AV.cells, Value.cells, RelVs]; exact ⟨h', trivial⟩
  | nils => have h' := h; simp only [RelV] at h; subst h; simp only [AV.cells, Value.cells, RelVs]; exact ⟨h', trivial⟩
  | raw u =>
    have h' := h
    simp only [RelV] at h
    obtain ⟨rfl, h1⟩ := h
    have : v.cells = #[v] := by cases v <;> first | rfl | simp [Value.oneCell'] at h1
    rw [this]
    simp only [AV.cells, RelVs]
    exact ⟨h', trivial⟩
  | fs n size cell => have h' := h; simp only [RelV] at h; obtain ⟨A, cap, rfl, _⟩ := h; simp only [AV.cells, Value.cells, RelVs]; exact ⟨h', trivial⟩
  | fe size cell j => have h' := h; simp only [RelV] at h; obtain ⟨A, rfl, _⟩ := h; simp only [AV.cells, Value.cells, RelVs]; exact ⟨h', trivial⟩
  | p id k => have h' := h; simp only [RelV] at h; obtain ⟨A, _, rfl⟩ := h; simp only [AV.cells, Value.cells, RelVs]; exact ⟨h', trivial⟩
  | pr id size i j => have h' := h; simp only [RelV] at h; obtain ⟨A, _, rfl⟩ := h; simp only [AV.cells, Value.cells, RelVs]; exact ⟨h', trivial⟩
  | sl id size st n => have h' := h; simp only [RelV] at h; rcases h with ⟨_, rfl⟩ | ⟨A, cap, off, _, rfl, _⟩ <;> (simp only [AV.cells, Value.cells, RelVs]; exact ⟨h', trivial⟩)
  | sa id size st n => have h' := h; simp only [RelV] at h; obtain ⟨A, cap, off, _, rfl, _⟩ := h; simp only [AV.cells, Value.cells, RelVs]; exact ⟨h', trivial⟩
  | sk id size st n cap => have h' := h; simp only [RelV] at h; obtain ⟨A, off, _, rfl, _⟩ := h; simp only [AV.cells, Value.cells, RelVs]; exact ⟨h', trivial⟩
  | tup xs => have h' := h; simp only [RelV] at h; obtain ⟨A, rfl, _⟩ := h; simp only [AV.cells, Value.cells, RelVs]; exact ⟨h', trivial⟩
  | fn f x y => have h' := h; simp only [RelV] at h; obtain ⟨A, B, rfl, _⟩ := h; simp only [AV.cells, Value.cells, RelVs]; exact ⟨h', trivial⟩

theorem setAt_length : ∀ (l : List AV) (k : Nat) (vs : List AV), (setAt l k vs).length = l.length
  | l, k, [] => by simp [setAt]
  | [], k, v :: vs => by simp [setAt]
  | a :: r, 0, v :: vs => by simp [setAt, setAt_length r 0 vs]
  | a :: r, k + 1, v :: vs => by simp [setAt, setAt_length r k (v :: vs)]

theorem setAt_get : ∀ (l : List AV) (k : Nat) (vs : List AV) (i : Nat), k + vs.length ≤ l.length → (setAt l k vs)[i]? = if k ≤ i ∧ i < k + vs.length then vs[i - k]? else l[i]?
  | l, k, [], i, _ => by simp [setAt]; omega
  | [], k, v :: vs, i, h => by simp at h
  | a :: r, 0, v :: vs, i, h => by
    simp only [setAt]
    cases i with
    | zero => simp
    | succ i =>
      simp only [List.getElem?_cons_succ]
      rw [setAt_get r 0 vs i (by simpa using h)]
      simp
  | a :: r, k + 1, v :: vs, i, h => by
    simp only [setAt]
    cases i with
    | zero => simp
    | succ i =>
      simp only [List.getElem?_cons_succ]
      rw [setAt_get r k (v :: vs) i (by simp at h ⊢; omega)]
      by_cases hc : k ≤ i ∧ i < k + (v :: vs).length
      · rw [if_pos hc, if_pos (by omega)]
        congr 1
        omega
      · rw [if_neg hc, if_neg (by omega)]

theorem foldl_set_size (off : Nat) : ∀ (l : List Value) (j : Nat) (cs : Array Value), ((l.zipIdx j).foldl (fun (cs : Array Value) (x : Value × Nat) => cs.setIfInBounds (off + x.2) x.1) cs).size = cs.size
  | [], _, _ => rfl
  | v :: l, j, cs => by
    simp only [List.zipIdx_cons, List.foldl_cons]
    rw [foldl_set_size off l (j + 1)]
    simp
theorem foldl_set_get (off : Nat) : ∀ (l : List Value) (j : Nat) (cs : Array Value) (i : Nat), off + j + l.length ≤ cs.size →
    ((l.zipIdx j).foldl (fun (cs : Array Value) (x : Value × Nat) => cs.setIfInBounds (off + x.2) x.1) cs)[i]? = if off + j ≤ i ∧ i < off + j + l.length then l[i - (off + j)]? else cs[i]?
  | [], j, cs, i, _ => by simp; omega
  | v :: l, j, cs, i, h => by
    simp only [List.zipIdx_cons, List.foldl_cons, List.length_cons] at h ⊢
    rw [foldl_set_get off l (j + 1) _ i (by simp; omega)]
    by_cases h1 : off + j = i
    · subst h1
      rw [if_neg (by omega), if_pos (by omega)]
      simp [show off + j < cs.size by omega]
    · by_cases h2 : off + (j + 1) ≤ i ∧ i < off + (j + 1) + l.length
      · rw [if_pos h2, if_pos (by omega)]
        rw [show i - (off + j) = (i - (off + (j + 1))) + 1 by omega]
        simp
      · rw [if_neg h2, if_neg (by omega)]
        simp [Array.getElem?_setIfInBounds_ne h1]

theorem setAt_rel {c : Cx} {l vs : List AV} {us : List Value} {cs : Array Value} {k : Nat} (h : RelVs c l cs.toList) (hv : RelVs c vs us) (hk : k + vs.length ≤ l.length) :
    RelVs c (setAt l k vs) ((us.zipIdx 0).foldl (fun (cs : Array Value) (x : Value × Nat) => cs.setIfInBounds (k + x.2) x.1) cs).toList := by
  have hl := RelVs_length h
  have hvl := RelVs_length hv
  have hsz : cs.size = l.length := by simpa using hl
  refine RelVs_of (by simp [foldl_set_size, setAt_length, hsz]) fun i a v ha hv' => ?_
  rw [setAt_get l k vs i hk] at ha
  have hv'' : ((us.zipIdx 0).foldl (fun (cs : Array Value) (x : Value × Nat) => cs.setIfInBounds (k + x.2) x.1) cs)[i]? = some v := by simpa using hv'
  rw [foldl_set_get k us 0 cs i (by omega)] at hv''
  simp only [Nat.add_zero] at hv''
  by_cases hc : k ≤ i ∧ i < k + vs.length
  · rw [if_pos hc] at ha
    rw [if_pos (by omega)] at hv''
    obtain ⟨u, hu, hr⟩ := RelVs_get hv _ _ ha
    rw [hu] at hv''
    cases hv''
    exact hr
  · rw [if_neg hc] at ha
    rw [if_neg (by omega)] at hv''
    obtain ⟨u, hu, hr⟩ := RelVs_get h _ _ ha
    have : cs[i]? = some u := by simpa using hu
    rw [this] at hv''
    cases hv''
    exact hr

/-- The parts of a literal, each with its value. -/
def PartsRel (c : Cx) (place : Nat → Option (Nat × Nat)) : List (Nat × Nat × AV) → List (Nat × Value) → Prop
  | [], [] => True
  | (off, sz, a) :: r, (i, v) :: s => place i = some (off, sz) ∧ RelV c a v ∧ PartsRel c place r s
  | _, _ => False

theorem fill_sound {K' : List AV → Prop} {place : Nat → Option (Nat × Nat)} : ∀ {l : List AV} {ps : List (Nat × Nat × AV)}, fillAt l ps K' →
    ∃ r, K' r ∧ r.length = l.length ∧ ∀ (c : Cx) (cs : Array Value) (vs : List (Nat × Value)), RelVs c l cs.toList → PartsRel c place ps vs → ∃ cs', Instr.fill place cs vs = some cs' ∧ RelVs c r cs'.toList
  | l, [], h => ⟨l, h, rfl, fun c cs vs hr hp => by
      cases vs with
      | nil => exact ⟨cs, rfl, hr⟩
      | cons _ _ => exact hp.elim⟩
  | l, (off, sz, a) :: ps, h => by
    simp only [fillAt] at h
    split at h
    · rename_i h1 h2
      have e1 := Nat.eq_of_beq_eq_true h1
      have e2 := Nat.le_of_ble_eq_true h2
      obtain ⟨r, hr, hlen, hs⟩ := fill_sound h
      refine ⟨r, hr, by rw [hlen, setAt_length], fun c cs vs hrel hp => ?_⟩
      cases vs with
      | nil => exact hp.elim
      | cons x vs =>
        obtain ⟨i, v⟩ := x
        obtain ⟨hpl, hav, hp⟩ := hp
        have hc := cells_rel hav
        have hcl := RelVs_length hc
        have hl := RelVs_length hrel
        have hcsz : v.cells.size = sz := by have : v.cells.size = a.cells.length := by simpa using hcl
                                            omega
        have hss : cs.size = l.length := by simpa using hl
        have hrel' := setAt_rel (k := off) hrel hc (by omega)
        obtain ⟨cs', h3, h4⟩ := hs c _ vs hrel' hp
        refine ⟨cs', ?_, h4⟩
        simp only [Instr.fill, hpl]
        rw [if_neg (by simp [hcsz]; omega)]
        rw [← h3]
        congr 1
        rw [← Array.foldl_toList]
        congr 1
        simp
    · exact h.elim

section
variable {P : Program} {env : List (Nat × AV)} {H : List (Nat × Blk)} {K : AV → Option Nat → Prop} {o : Oper}

/-- The parts of a literal. -/
def convParts (pl : Nat → Option (Nat × Nat)) : List (Nat × Operand) → Option (List (Nat × Nat × X))
  | [] => some []
  | (i, ox) :: r => match pl i, convX ox, convParts pl r with
    | some (off, n), some x, some xs => some ((off, n, x) :: xs)
    | _, _, _ => none

def tmpsParts : List (Nat × Nat × X) → List Nat
  | [] => []
  | (_, _, x) :: r => x.tmps ++ tmpsParts r

theorem gparts_sound {pl : Nat → Option (Nat × Nat)} : ∀ {K' : List (Nat × Nat × AV) → Prop} {ops : List (Nat × Operand)} {ps : List (Nat × Nat × X)}, convParts pl ops = some ps → gparts env ps K' →
    ∃ vs : List (Nat × Nat × AV), K' vs ∧ ∀ (c : Cx) (act : Act), Known c env act.tmps (tmpsParts ps) → PartsRel c pl vs (ops.map fun q => (q.1, act.eval q.2))
  | K', [], ps, hc, h => by
    simp only [convParts, Option.some.injEq] at hc
    subst hc
    exact ⟨[], h, fun c act _ => trivial⟩
  | K', (i, ox) :: ops, ps, hc, h => by
    simp only [convParts] at hc
    split at hc
    · rename_i off n x xs h1 h2 h3
      simp only [Option.some.injEq] at hc
      subst hc
      obtain ⟨a, ha, hra⟩ := gx_sound h2 h
      obtain ⟨vs, hvs, hr⟩ := gparts_sound h3 ha
      refine ⟨(off, n, a) :: vs, hvs, fun c act hk => ?_⟩
      simp only [List.map_cons, PartsRel]
      refine ⟨h1, hra c act (hk.sub fun t ht => ?_), hr c act (hk.sub fun t ht => ?_)⟩
      · simp only [tmpsParts, List.mem_append]; exact .inl ht
      · simp only [tmpsParts, List.mem_append]; exact .inr ht
    · cases hc

theorem run_listMapM {α β : Type} {f : α → Sem β} {g : α → β} : ∀ (l : List α) (w : World), (∀ x ∈ l, ∀ w, (f x).run P w = .ok (g x) w) → (l.mapM f).run P w = .ok (l.map g) w
  | [], w, _ => by simp
  | a :: l, w, h => by
    rw [List.mapM_cons]
    simp only [Sem.run_bind, h a (by simp), Result.andThen_ok, run_listMapM l w fun x hx => h x (by simp [hx]), Sem.run_pure, List.map_cons]

def tZero (P : Program) (t : TypeId) : Option Value := (P.info? t).bind (·.zero)
theorem zeroValue_run {t : TypeId} {z : Value} (h : tZero P t = some z) (w : World) : (zeroValue t).run P w = .ok z w := by
  unfold tZero at h
  obtain ⟨i, hi, hz⟩ := Option.bind_eq_some_iff.1 h
  simp [zeroValue, typeInfo, hi, hz]

/-- The cells of a type's zero value. -/
def zCells (P : Program) (t : TypeId) : Option (List AV) :=
  match tZero P t with
  | some z => (match z.cells.toList.all fun v => v.oneCell' with
    | true => some (z.cells.toList.map vAV1)
    | false => none)
  | none => none
theorem zCells_spec {t : TypeId} {zs : List AV} (h : zCells P t = some zs) : ∃ z, tZero P t = some z ∧ (∀ c, RelVs c zs z.cells.toList) ∧ ∀ v ∈ z.cells.toList, v.oneCell' = true := by
  unfold zCells at h
  split at h
  · rename_i z hz
    split at h
    · rename_i ha
      cases h
      exact ⟨z, hz, fun c => vAV1s_rel c _ ha, fun v hv => by
        have := List.all_eq_true.1 ha v hv
        simpa using this⟩
    · cases h
  · cases h

/-- Where the fields of a struct lie. -/
def fieldPl (P : Program) (fs : Array Field) (i : Nat) : Option (Nat × Nat) :=
  match fs[i]? with
  | some f => (match tSize P f.type with
    | some n => some (f.offset, n)
    | none => none)
  | none => none

theorem lop_buildS {t : TypeId} {fs : Array Field} {parts : Array (Nat × Operand)} {zs : List AV} {ps : List (Nat × Nat × X)} (ho : o.op = .build t parts) (hu : P.underlying t = some (.struct fs))
    (hall : (fs.toList.all fun f => (tSize P f.type).isSome) = true) (hz : zCells P t = some zs) (hp : convParts (fieldPl P fs) parts.toList = some ps)
    (h : lop env H (.build zs ps) K) : ∃ v tch, K v tch ∧ Ylds P o (tmpsParts ps) env H v tch := by
  obtain ⟨vs, hvs, hr⟩ := gparts_sound hp h
  obtain ⟨r, hK, _, hs⟩ := fill_sound (place := fieldPl P fs) hvs
  obtain ⟨z, hz, hzr, _⟩ := zCells_spec hz
  refine ⟨_, none, hK, fun c act hk _ => ?_⟩
  obtain ⟨cs', h1, h2⟩ := hs c z.cells _ (hzr c) (hr c act hk)
  refine ⟨.agg cs', ?_, ?_⟩
  · have hm : ∀ w : World, (fs.mapM fun (f : Field) => do pure (f.offset, ← sizeOf f.type)).run P w = .ok (fs.map fun (f : Field) => (f.offset, (tSize P f.type).getD 0)) w := by
      intro w
      rw [Array.mapM_eq_mapM_toList]
      simp only [Sem.run_map]
      rw [run_listMapM (g := fun f : Field => (f.offset, (tSize P f.type).getD 0)) fs.toList w ?_]
      · simp only [Result.andThen_ok]
        congr 1
        apply Array.ext'
        simp
      · intro f hf w
        have := List.all_eq_true.1 hall f hf
        obtain ⟨n, hn⟩ := Option.isSome_iff_exists.1 this
        simp [sizeOf_run hn, hn]
    have hpl : (fun i : Nat => (fs.map fun (f : Field) => (f.offset, (tSize P f.type).getD 0))[i]?) = fieldPl P fs := by
      funext i
      simp only [fieldPl, Array.getElem?_map]
      cases hi : fs[i]? with
      | none => rfl
      | some f =>
        have hmem : f ∈ fs.toList := by
          have := Array.mem_of_getElem? hi
          simpa using this
        obtain ⟨n, hn⟩ := Option.isSome_iff_exists.1 (List.all_eq_true.1 hall f hmem)
        simp [hn]
    have h1' : Instr.fill (fun x => (fs.map fun (f : Field) => (f.offset, (tSize P f.type).getD 0))[x]?) z.cells (List.map (fun q => (q.1, act.eval q.2)) parts.toList) = some cs' := by
      rw [hpl]; exact h1
    simp only [execOp, ho, Instr.build, Sem.run_bind, zeroValue_run hz, Result.andThen_ok, run_underlying hu, hm, Sem.run_pure]
    simp only [Array.toList_map] at h1' ⊢
    have e : (fun x : Nat × Operand => (x.1, act.eval x.2)) = (fun (x : Nat × Operand) => match x with | (i, x) => (i, act.eval x)) := by
      funext ⟨a, b⟩; rfl
    rw [← e, h1']
    simp
  · simp only [RelV]
    exact ⟨cs', rfl, h2⟩

def arrPl (size : Nat) (i : Nat) : Option (Nat × Nat) := some (i * size, size)

theorem lop_buildA {t el : TypeId} {n size : Nat} {parts : Array (Nat × Operand)} {zs : List AV} {ps : List (Nat × Nat × X)} (ho : o.op = .build t parts) (hu : tArray P t = some (n, el))
    (hsz : tSize P el = some size) (hz : zCells P t = some zs) (hp : convParts (arrPl size) parts.toList = some ps)
    (h : lop env H (.build zs ps) K) : ∃ v tch, K v tch ∧ Ylds P o (tmpsParts ps) env H v tch := by
  obtain ⟨vs, hvs, hr⟩ := gparts_sound hp h
  obtain ⟨r, hK, _, hs⟩ := fill_sound (place := arrPl size) hvs
  obtain ⟨z, hz, hzr, _⟩ := zCells_spec hz
  refine ⟨_, none, hK, fun c act hk _ => ?_⟩
  obtain ⟨cs', h1, h2⟩ := hs c z.cells _ (hzr c) (hr c act hk)
  refine ⟨.agg cs', ?_, ?_⟩
  · simp only [execOp, ho, Instr.build, Sem.run_bind, zeroValue_run hz, Result.andThen_ok, run_underlying (tArray_spec hu), sizeOf_run hsz, Sem.run_pure]
    simp only [Array.toList_map] at h1 ⊢
    have e : (fun x : Nat × Operand => (x.1, act.eval x.2)) = (fun (x : Nat × Operand) => match x with | (i, x) => (i, act.eval x)) := by
      funext ⟨a, b⟩; rfl
    have e2 : (fun i : Nat => some (i * size, size)) = arrPl size := rfl
    rw [← e, e2, h1]
    simp
  · simp only [RelV]
    exact ⟨cs', rfl, h2⟩

end
end Go.Hb

namespace Go.Hb
open Go.RowKit

theorem cvs_spec : ∀ {l : List AV} {cs : List CV}, cvs l = some cs → cs.length = l.length ∧ ∀ (i : Nat) a, l[i]? = some a → ∃ c, cs[i]? = some c ∧ a.cv = some c
  | [], cs, h => by simp [cvs] at h; subst h; simp
  | a :: r, cs, h => by
    simp only [cvs] at h
    split at h
    · rename_i c cs' h1 h2
      simp only [Option.some.injEq] at h
      subst h
      obtain ⟨hl, hg⟩ := cvs_spec h2
      refine ⟨by simp [hl], fun i b hb => ?_⟩
      cases i with
      | zero => simp at hb; subst hb; exact ⟨c, rfl, h1⟩
      | succ i => simp at hb; simpa using hg i b hb
    · cases h

section
variable {P : Program} {env : List (Nat × AV)} {H : List (Nat × Blk)} {K : AV → Option Nat → Prop} {o : Oper}

theorem lop_cap {ox : Operand} {x : X} {t el : TypeId} (ho : o.op = .call { callee := .builtin .cap, args := #[ox], argTypes := #[t] }) (ht : tSlice P t = some el) (hx : convX ox = some x)
    (h : lop env H (.cap x) K) : ∃ v tch, K v tch ∧ Ylds P o x.tmps env H v tch := by
  obtain ⟨a, ha, hra⟩ := gx_sound hx h
  cases a with
  | sk id size st n c =>
    refine ⟨_, none, ha, fun q act hkn _ => ⟨.int .i64 (c : Int), ?_, by simp [RelV]⟩⟩
    have hu := hra q act hkn
    simp only [RelV] at hu
    obtain ⟨b, off, _, e, _⟩ := hu
    simp [execOp, ho, resolve, invoke, builtin, Builtin.cap_, e, run_underlying (tSlice_spec ht), goInt]
  | nils =>
    refine ⟨_, none, ha, fun q act hkn _ => ⟨.int .i64 ((0 : Nat) : Int), ?_, by simp [RelV]⟩⟩
    have e := hra q act hkn
    simp only [RelV] at e
    simp [execOp, ho, resolve, invoke, builtin, Builtin.cap_, e, run_underlying (tSlice_spec ht), goInt]
  | _ => exact ha.elim

theorem lop_mm {ox oy : Operand} {x y : X} {mx : Bool} {ts : Array TypeId} (ho : o.op = .call { callee := .builtin (if mx then .max else .min), args := #[ox, oy], argTypes := ts }) (hx : convX ox = some x) (hy : convX oy = some y)
    (h : lop env H (.mm mx x y) K) : ∃ v tch, K v tch ∧ Ylds P o (x.tmps ++ y.tmps) env H v tch := by
  obtain ⟨a, ha, hra⟩ := gx_sound hx h
  obtain ⟨b, hb, hrb⟩ := gx_sound hy ha
  cases a with
  | i k p =>
    cases b with
    | i j q =>
      have e1 : ∀ c (act : Act), Known c env act.tmps (x.tmps ++ y.tmps) → act.eval ox = .int k p := fun c act hk => by simpa [RelV] using hra c act (hk.sub fun t ht => by simp [ht])
      have e2 : ∀ c (act : Act), Known c env act.tmps (x.tmps ++ y.tmps) → act.eval oy = .int j q := fun c act hk => by simpa [RelV] using hrb c act (hk.sub fun t ht => by simp [ht])
      cases mx with
      | true =>
        refine ⟨_, none, hb, fun c act hk _ => ⟨.int k (if q > p then q else p), ?_, by simp only [RelV]⟩⟩
        simp [execOp, ho, resolve, invoke, builtin, Builtin.max_, Builtin.max2, e1 c act hk, e2 c act hk]
      | false =>
        refine ⟨_, none, hb, fun c act hk _ => ⟨.int k (if q < p then q else p), ?_, by simp only [RelV]⟩⟩
        simp [execOp, ho, resolve, invoke, builtin, Builtin.min_, Builtin.min2, e1 c act hk, e2 c act hk]
    | _ => exact hb.elim
  | _ => exact hb.elim

def cvNum : CV → Int
  | .i _ z => z
  | _ => 0
theorem bytesOf_nums (n : Nat) (f : Nat → CV) (h : ∀ i, i < n → isByte (f i)) : strOfNums ((List.range n).map fun i => cvNum (f i)) = bytesOf n f := by
  unfold strOfNums bytesOf
  congr 1
  apply Array.ext'
  simp only [Array.toList_map, Array.toList_range, List.map_map]
  apply List.map_congr_left
  intro i hi
  have := h i (List.mem_range.1 hi)
  simp only [Function.comp]
  cases hf : f i with
  | i k z => rfl
  | _ => rw [hf] at this; exact this.elim
theorem isByte_rel {w : World} {I : Nat → Prop} {c : CV} {u : Value} (h : isByte c) (hr : RelC w I c u) : u = .int .u8 (cvNum c) := by
  cases c with
  | i k z => cases k <;> first | exact h.elim | simpa [RelC, cvNum] using hr
  | _ => exact h.elim

theorem run_convert_bytes {w : World} (src e : TypeId) (hs : P.underlying src = some (.slice e)) (he : P.underlying e = some (.int .u8)) (a : Addr) (len cap : Nat) (f : Nat → CV) (hb : ∀ i, i < len → isByte (f i))
    (hcell : ∀ i, i < len → w.cell? (a.add i) = some (.int .u8 (cvNum (f i)))) (dst : TypeId) (hd : P.underlying dst = some .string) : (convert src dst (.slice (some a) len cap)).run P w = .ok (.string (bytesOf len f)) w := by
  have hl : (loadCells a len).run P w = .ok (((List.range len).map fun i => cvNum (f i)).map (Value.int .u8)).toArray w := by
    have := run_loadCells_list (P := P) w a (((List.range len).map fun i => cvNum (f i)).map (Value.int .u8)) (fun j v hj => by
      have hjl : j < len := by
        rcases Nat.lt_or_ge j len with h | h
        · exact h
        · simp [h] at hj
      rw [hcell j hjl]
      simp [hjl] at hj
      rw [← hj])
    simpa using this
  rw [run_convert_bytes_string w src dst e _ len cap hs he hd, run_bytesToString w _ len cap _ hl, foldl_push_bytes, ← bytesOf_nums len f hb]
  simp [strOfNums, ByteArray.empty, ByteArray.emptyWithCapacity]
  rfl

theorem lop_b2s {ox : Operand} {x : X} {t e t' : TypeId} (ho : o.op = .convert t t' ox) (ht : tSlice P t = some e) (he : P.underlying e = some (.int .u8)) (hd : P.underlying t' = some .string) (hx : convX ox = some x)
    (h : lop env H (.b2s x) K) : ∃ v tch, K v tch ∧ Ylds P o x.tmps env H v tch := by
  obtain ⟨a, ha, hra⟩ := gx_sound hx h
  have hu := tSlice_spec ht
  have nil : ∀ (w : World) (l c : Nat), (convert t t' (.slice none l c)).run P w = .ok (.string ByteArray.empty) w := fun w l c => by
    rw [run_convert_bytes_string w t t' e none l c hu he hd]; simp [Conv.bytesToString]
  have zero : ∀ (f : Nat → CV), bytesOf 0 f = ByteArray.empty := fun f => by
    unfold bytesOf
    apply ByteArray.ext
    simp
  have emp : ∀ (w : World) (a : Addr) (c : Nat), (convert t t' (.slice (some a) 0 c)).run P w = .ok (.string ByteArray.empty) w := fun w a c => by
    rw [← zero fun _ => .b false]
    exact run_convert_bytes t e hu he a 0 c (fun _ => .b false) (fun i hi => absurd hi (Nat.not_lt_zero _)) (fun i hi => absurd hi (Nat.not_lt_zero _)) t' hd
  have hexec : ∀ (c : Cx) (act : Act) (u : Value), (convert t t' (act.eval ox)).run P c.w = .ok u c.w → (execOp act.eval o).run P c.w = .ok (.value u) c.w := fun c act u hr => by
    simp [execOp, ho, hr]
  cases a with
  | nils =>
    refine ⟨_, none, ha, fun c act hk _ => ⟨.string ByteArray.empty, hexec c act _ ?_, by simp [RelV]⟩⟩
    have e1 := hra c act hk
    simp only [RelV] at e1
    rw [e1]
    exact nil _ _ _
  | fs n size cell =>
    simp only at ha
    cases hs : Nat.beq size 1 with
    | false => simp [hs] at ha
    | true =>
      obtain rfl := Nat.eq_of_beq_eq_true hs
      simp only [hs] at ha
      obtain ⟨hb, hK⟩ := ha
      refine ⟨_, none, hK, fun c act hk _ => ⟨.string (bytesOf n fun i => cell i 0), hexec c act _ ?_, by simp [RelV]⟩⟩
      have hr := hra c act hk
      simp only [RelV] at hr
      obtain ⟨A, cap, e1, hcap, hc⟩ := hr
      rw [e1]
      by_cases hn : n = 0
      · subst hn
        cases A with
        | none => rw [zero]; exact nil _ _ _
        | some A => rw [zero]; exact emp _ _ _
      · obtain ⟨ad, rfl, hI, hcell⟩ := hc hn
        refine run_convert_bytes t e hu he ad n cap _ hb (fun i hi => ?_) t' hd
        obtain ⟨u, h1, h2⟩ := hcell i 0 hi (by omega)
        rw [isByte_rel (hb i hi) h2] at h1
        simpa using h1
  | sl id size st n =>
    simp only at ha
    cases hl : lk id H with
    | none => simp [hl] at ha
    | some blk =>
      cases blk with
      | rows n' size' cell =>
        simp only [hl] at ha
        cases hs : Nat.beq size 1 with
        | false => simp [hs] at ha
        | true =>
          cases hs' : Nat.beq size' 1 with
          | false => simp [hs, hs'] at ha
          | true =>
            obtain rfl := Nat.eq_of_beq_eq_true hs
            obtain rfl := Nat.eq_of_beq_eq_true hs'
            simp only [hs, hs'] at ha
            obtain ⟨hle, hb, hK⟩ := ha
            refine ⟨_, some id, hK, fun c act hk hblk => ⟨.string (bytesOf n fun i => cell (st + i) 0), hexec c act _ ?_, by simp [RelV]⟩⟩
            have hr := hra c act hk
            simp only [RelV] at hr
            rcases hr with ⟨rfl, e1⟩ | ⟨b, cap, off, hloc, e1, hcap, hoff, cs, ty, fr, hheap, hsz⟩
            · rw [e1, zero]; exact nil _ _ _
            · rw [e1]
              by_cases hn : n = 0
              · subst hn; rw [zero]; exact emp _ _ _
              · have := hoff (by omega)
                subst this
                obtain ⟨arr, ty', fr', hheap', hth, hns, hrs⟩ := hblk id rfl _ b hl hloc
                refine run_convert_bytes t e hu he _ n cap _ hb (fun i hi => ?_) t' hd
                obtain ⟨u, h1, h2⟩ := hrs (st + i) 0 (by omega) (by omega)
                rw [isByte_rel (hb i hi) h2] at h1
                rw [add_plain, cell_of_blk hheap', ← h1]
                congr 1
                omega
      | _ => simp [hl] at ha
  | sa id size off0 n =>
    simp only at ha
    cases hl : lk id H with
    | none => simp [hl] at ha
    | some blk =>
      cases blk with
      | lit lc =>
        simp only [hl] at ha
        cases hs : Nat.beq size 1 with
        | false => simp [hs] at ha
        | true =>
          obtain rfl := Nat.eq_of_beq_eq_true hs
          cases ht : takeAt lc off0 n with
          | none => simp [hs, ht] at ha
          | some l =>
            cases hc : cvs l with
            | none => simp [hs, ht, hc] at ha
            | some cl =>
              simp only [hs, ht, hc] at ha
              obtain ⟨htl, htg⟩ := takeAt_spec ht
              obtain ⟨hcl, hcg⟩ := cvs_spec hc
              obtain ⟨hb, hK⟩ := ha
              refine ⟨_, some id, hK, fun c act hk hblk => ⟨.string (bytesOf n fun i => cl.getD i (.b false)), hexec c act _ ?_, by simp [RelV]⟩⟩
              have hr := hra c act hk
              simp only [RelV] at hr
              obtain ⟨b, cap, off, hloc, e1, hcap, hoff, cs, ty, fr, hheap, hsz⟩ := hr
              rw [e1]
              by_cases hn : n = 0
              · subst hn; rw [zero]; exact emp _ _ _
              · have := hoff (by omega)
                subst this
                obtain ⟨arr, ty', fr', hheap', hth, hrs⟩ := hblk id rfl _ b hl hloc
                refine run_convert_bytes t e hu he _ n cap _ hb (fun i hi => ?_) t' hd
                obtain ⟨u, h1, h2⟩ := RelVs_get hrs _ _ (htg i (l[i]'(by omega)) (List.getElem?_eq_getElem _))
                obtain ⟨q, h3, h4⟩ := hcg i (l[i]'(by omega)) (List.getElem?_eq_getElem _)
                have h5 : cl.getD i (.b false) = q := by rw [List.getD_eq_getElem?_getD, h3]; rfl
                have hbi := hb i hi
                simp only [h5] at hbi ⊢
                rw [isByte_rel hbi (AV.cv_rel h4 h2)] at h1
                rw [add_plain, cell_of_blk hheap']
                simpa using h1
      | _ => simp [hl] at ha
  | _ => exact ha.elim

theorem lop_slc3 {ox om : Operand} {x xm : X} {t el : TypeId} {size : Nat} {olo ohi : Option Operand} {lo hi : Option X} (ho : o.op = .slice t ox olo ohi (some om)) (hne : ohi ≠ none) (ht : tSlice P t = some el) (hs : tSize P el = some size) (hx : convX ox = some x) (hl : convXo olo = some lo) (hh : convXo ohi = some hi)
    (hm : convX om = some xm) (h : lop env H (.slc3 size x lo hi xm) K) : ∃ v tch, K v tch ∧ Ylds P o (x.tmps ++ (xm.tmps ++ (tmpsO lo ++ tmpsO hi))) env H v tch := by
  obtain ⟨a, ha, hra⟩ := gx_sound hx h
  obtain ⟨b, hb, hrb⟩ := gx_sound hm ha
  have hu := tSlice_spec ht
  have hrun : ∀ (c : Cx) (act : Act) (A : Option Addr) (n cap l u m : Nat), act.eval ox = .slice A n cap → (Instr.sliceBounds true n cap (olo.map act.eval) (ohi.map act.eval) (some (act.eval om))).run P c.w = .ok (l, u, m) c.w →
      (execOp act.eval o).run P c.w = .ok (.value (.slice (if m = l then A else A.map (·.add (l * size))) (u - l) (m - l))) c.w := by
    intro c act A n cap l u m e hb
    simp [execOp, ho, Instr.sliceAt, Instr.slice, run_underlying hu, e, hb, sizeOf_run hs]
  have sb : ∀ (k : IntKind) (m y : Nat) (code : BoundsCode) (w : World), m ≤ y → (Instr.sliceBound (.int k (m : Int)) y code).run P w = .ok m w := by
    intro k m y code w hm
    simp [Instr.sliceBound, asIntOf, hm]
  cases b with
  | i k z =>
    have eb : ∀ c (act : Act), Known c env act.tmps (x.tmps ++ (xm.tmps ++ (tmpsO lo ++ tmpsO hi))) → act.eval om = .int k z := fun c act hk => by simpa [RelV] using hrb c act (hk.sub fun t ht => by simp [ht])
    cases a with
    | sk id size' start n cap =>
      simp only at hb
      cases hq : Nat.beq size size' with
      | false => simp [hq] at hb
      | true =>
        obtain rfl := Nat.eq_of_beq_eq_true hq
        simp only [hq] at hb
        obtain ⟨m, rfl, hmc, hb⟩ := hb
        obtain ⟨l, u, hlu, hun, hK, hr⟩ := partc_sound (P := P) (n := m) (cap := m) (Nat.le_refl _) hl hh hb
        refine ⟨_, none, hK, fun c act hk _ => ?_⟩
        have hrel := hra c act (hk.sub fun t ht => by simp [ht])
        simp only [RelV] at hrel ⊢
        obtain ⟨b, off, hloc, e, hcap, hoff, cs, ty, fr, hheap, hsz⟩ := hrel
        have hbd := (hr c act (hk.sub fun t ht => by simp only [List.mem_append] at ht ⊢; exact .inr (.inr ht)) c.w).2 hne (act.eval om) cap (by rw [eb c act hk]; exact sb _ _ _ _ _ hmc)
        have hbd' : (Instr.sliceBounds true n cap (olo.map act.eval) (ohi.map act.eval) (some (act.eval om))).run P c.w = .ok (l, u, m) c.w := by
          rw [← hbd]
          cases ohi with
          | none => exact absurd rfl hne
          | some oh => simp [Instr.sliceBounds]
        refine ⟨_, hrun c act _ n cap l u m e hbd', b, if m = l then off else off + l * size, hloc, ?_, by omega, fun hne => ?_, cs, ty, fr, hheap, ?_⟩
        · by_cases hcl : m = l
          · simp [hcl]
          · simp [hcl, add_plain]
        · rw [if_neg (by omega), hoff (by omega), Nat.add_mul]
        · exact Nat.le_trans (Nat.mul_le_mul_right _ (by omega)) hsz
    | sl id size' start n =>
      simp only at hb
      cases hq : Nat.beq size size' with
      | false => simp [hq] at hb
      | true =>
        obtain rfl := Nat.eq_of_beq_eq_true hq
        simp only [hq] at hb
        obtain ⟨m, rfl, hmc, hb⟩ := hb
        obtain ⟨l, u, hlu, hun, hK, hr⟩ := partc_sound (P := P) (n := m) (cap := m) (Nat.le_refl _) hl hh hb
        refine ⟨_, none, hK, fun c act hk _ => ?_⟩
        have hrel := hra c act (hk.sub fun t ht => by simp [ht])
        have bd : ∀ n' cap : Nat, m ≤ cap → (Instr.sliceBounds true n' cap (olo.map act.eval) (ohi.map act.eval) (some (act.eval om))).run P c.w = .ok (l, u, m) c.w := by
          intro n' cap hcap
          have hbd := (hr c act (hk.sub fun t ht => by simp only [List.mem_append] at ht ⊢; exact .inr (.inr ht)) c.w).2 hne (act.eval om) cap (by rw [eb c act hk]; exact sb _ _ _ _ _ hcap)
          rw [← hbd]
          cases ohi with
          | none => exact absurd rfl hne
          | some oh => simp [Instr.sliceBounds]
        simp only [RelV] at hrel ⊢
        rcases hrel with ⟨rfl, e⟩ | ⟨b, cap, off, hloc, e, hcap, hoff, cs, ty, fr, hheap, hsz⟩
        · obtain rfl : m = 0 := by omega
          obtain rfl : u = 0 := by omega
          obtain rfl : l = 0 := by omega
          exact ⟨_, hrun c act none 0 0 0 0 0 e (bd 0 0 (Nat.le_refl _)), by simp⟩
        · refine ⟨_, hrun c act _ n cap l u m e (bd n cap (by omega)), .inr ⟨b, m - l, if m = l then off else off + l * size, hloc, ?_, by omega, fun hne => ?_, cs, ty, fr, hheap, ?_⟩⟩
          · by_cases hcl : m = l
            · simp [hcl]
            · simp [hcl, add_plain]
          · rw [if_neg (by omega), hoff (by omega), Nat.add_mul]
          · exact Nat.le_trans (Nat.mul_le_mul_right _ (by omega)) hsz
    | _ => exact hb.elim
  | _ => cases a <;> exact hb.elim

theorem lop_idxA {ox oi : Operand} {x i : X} {t e : TypeId} {n size : Nat} {ag : Bool} (ho : o.op = .index t ox oi) (ht : tArray P t = some (n, e)) (hs : tSize P e = some size) (hag : tAgg P e = some ag) (hx : convX ox = some x) (hi : convX oi = some i)
    (h : lop env H (.idxA n size ag x i) K) : ∃ v tch, K v tch ∧ Ylds P o (x.tmps ++ i.tmps) env H v tch := by
  obtain ⟨a, ha, hra⟩ := gx_sound hx h
  obtain ⟨b, hb, hrb⟩ := gx_sound hi ha
  cases a with
  | agg cs =>
    cases b with
    | i k z =>
      obtain ⟨m, rfl, hm, hb⟩ := hb
      have e1 : ∀ c (act : Act), Known c env act.tmps (x.tmps ++ i.tmps) → act.eval oi = .int k m := fun c act hk => by simpa [RelV] using hrb c act (hk.sub fun t ht => by simp [ht])
      cases ag with
      | true =>
        obtain ⟨l, hl, hK⟩ := hb
        refine ⟨_, none, hK, fun c act hk _ => ?_⟩
        have hr := hra c act (hk.sub fun t ht => by simp [ht])
        simp only [RelV] at hr
        obtain ⟨vs, e2, hr⟩ := hr
        refine ⟨.agg (vs.extract (m * size) (m * size + size)), ?_, by simp only [RelV]; exact ⟨_, rfl, array_extract_rel hr hl⟩⟩
        simp [execOp, ho, Instr.index, e1 c act hk, e2, asIntOf, run_underlying (tArray_spec ht), hm, sizeOf_run hs, Go.part, isAgg_run hag]
      | false =>
        obtain ⟨v, hv, hK⟩ := hb
        refine ⟨_, none, hK, fun c act hk _ => ?_⟩
        have hr := hra c act (hk.sub fun t ht => by simp [ht])
        simp only [RelV] at hr
        obtain ⟨vs, e2, hr⟩ := hr
        obtain ⟨u, hu, hru⟩ := RelVs_get hr _ _ hv
        have hu' : vs[m * size]? = some u := by simpa using hu
        refine ⟨u, ?_, hru⟩
        simp [execOp, ho, Instr.index, e1 c act hk, e2, asIntOf, run_underlying (tArray_spec ht), hm, sizeOf_run hs, Go.part, isAgg_run hag, hu']
    | _ => exact hb.elim
  | _ => cases b <;> exact hb.elim

/-! Structs and arrays, alike or not -/

def kOf (P : Program) (t : TypeId) : Option Nat :=
  match P.underlying t with
  | some .string => some 0
  | some (.int _) => some 1
  | some .bool => some 2
  | _ => none
def fKs (P : Program) : List Field → Nat → Option (List Nat)
  | [], _ => some []
  | f :: r, k => match decide (f.name ≠ "_"), Nat.beq f.offset k, kOf P f.type, fKs P r (k + 1) with
    | true, true, some q, some ks => some (q :: ks)
    | _, _, _, _ => none

theorem eq1_run {k : Nat} {t : TypeId} {a b : AV} {r : Bool} (hk : kOf P t = some k) (h : eq1 k a b = some r) {c : Cx} {u v : Value} (ha : RelV c a u) (hb : RelV c b v) (d : Nat) (w : World) :
    (Op.equalIn (d + 1) t u v).run P w = .ok r w := by
  unfold kOf at hk
  split at hk
  · rename_i hu
    cases hk
    simp only [eq1] at h
    cases a with
    | s x =>
      cases b with
      | s y =>
        simp only [Option.some.injEq] at h
        subst h
        simp only [RelV] at ha hb
        subst ha; subst hb
        exact run_equalIn_string w d t x y hu
      | _ => simp at h
    | _ => simp at h
  · rename_i k' hu
    cases hk
    simp only [eq1] at h
    cases a with
    | i k x =>
      cases b with
      | i j y =>
        simp only at h
        split at h
        · rename_i hkj
          obtain rfl := of_decide_eq_true hkj
          simp only [Option.some.injEq] at h
          subst h
          simp only [RelV] at ha hb
          subst ha; subst hb
          exact run_equalIn_int w d t k k' x y hu
        · cases h
      | _ => simp at h
    | _ => simp at h
  · rename_i hu
    cases hk
    simp only [eq1] at h
    split at h
    · rename_i x y h1 h2
      simp only [Option.some.injEq] at h
      subst h
      rw [boolOf_spec h1 ha, boolOf_spec h2 hb]
      exact run_equalIn_bool' w d t x y hu
    · cases h
  · cases hk

theorem kOf_agg {t : TypeId} {k : Nat} (h : kOf P t = some k) : tAgg P t = some false := by
  unfold kOf at h
  unfold tAgg
  split at h <;> first | (cases h; done) | (rename_i hu; rw [hu])

theorem eqCells_get : ∀ {ks : List Nat} {as bs : List AV} {r : Bool}, eqCells ks as bs = some r → as.length = ks.length ∧ bs.length = ks.length
  | [], [], [], _, _ => ⟨rfl, rfl⟩
  | [], _ :: _, _, _, h => by simp [eqCells] at h
  | [], [], _ :: _, _, h => by simp [eqCells] at h
  | _ :: _, [], _, _, h => by simp [eqCells] at h
  | _ :: _, _ :: _, [], _, h => by simp [eqCells] at h
  | k :: ks, a :: as, b :: bs, r, h => by
    simp only [eqCells] at h
    split at h
    · rename_i q r' h1 h2
      obtain ⟨h3, h4⟩ := eqCells_get h2
      simp [h3, h4]
    · cases h

theorem part_one {t : TypeId} (h : tAgg P t = some false) {cs : Array Value} {off : Nat} {v : Value} (hv : cs[off]? = some v) (w : World) : (Go.part t cs off).run P w = .ok v w := by
  simp [Go.part, isAgg_run h, hv]

theorem eqFields_run {c : Cx} {xs ys : Array Value} {w : World} (d : Nat) : ∀ (fs : List Field) (off : Nat) (ks : List Nat) (as bs : List AV) (r : Bool), fKs P fs off = some ks → eqCells ks as bs = some r →
    RelVs c as (xs.toList.drop off) → RelVs c bs (ys.toList.drop off) → (Op.eqFields (d + 1) xs ys fs).run P w = .ok r w
  | [], off, ks, as, bs, r, hk, he, _, _ => by
    simp only [fKs, Option.some.injEq] at hk
    subst hk
    cases as with
    | nil =>
      cases bs with
      | nil => simp only [eqCells, Option.some.injEq] at he; subst he; simp [Op.eqFields]
      | cons _ _ => simp [eqCells] at he
    | cons _ _ => simp [eqCells] at he
  | f :: fs, off, ks, as, bs, r, hk, he, ha, hb => by
    simp only [fKs] at hk
    split at hk
    · rename_i q ks' h1 h2 h3 h4
      simp only [Option.some.injEq] at hk
      subst hk
      have hn := of_decide_eq_true h1
      have hoff := Nat.eq_of_beq_eq_true h2
      cases as with
      | nil => simp [eqCells] at he
      | cons a as =>
        cases bs with
        | nil => simp [eqCells] at he
        | cons b bs =>
          simp only [eqCells] at he
          split at he
          · rename_i q' r' e1 e2
            simp only [Option.some.injEq] at he
            subst he
            cases hxd : xs.toList.drop off with
            | nil => rw [hxd] at ha; simp [RelVs] at ha
            | cons u us =>
              cases hyd : ys.toList.drop off with
              | nil => rw [hyd] at hb; simp [RelVs] at hb
              | cons v vs =>
                have ha' := ha
                have hb' := hb
                rw [hxd] at ha'
                rw [hyd] at hb'
                simp only [RelVs] at ha' hb'
                have hu : xs[f.offset]? = some u := by
                  have := congrArg (fun l => l[0]?) hxd
                  simpa [hoff] using this
                have hv : ys[f.offset]? = some v := by
                  have := congrArg (fun l => l[0]?) hyd
                  simpa [hoff] using this
                have hx1 : xs.toList.drop (off + 1) = us := by
                  have := congrArg (List.drop 1) hxd
                  simpa [List.drop_drop] using this
                have hy1 : ys.toList.drop (off + 1) = vs := by
                  have := congrArg (List.drop 1) hyd
                  simpa [List.drop_drop] using this
                have ih := eqFields_run (c := c) (xs := xs) (ys := ys) (w := w) d fs (off + 1) ks' as bs r' h4 e2 (by rw [hx1]; exact ha'.2) (by rw [hy1]; exact hb'.2)
                have hq := eq1_run (d := d) (w := w) h3 e1 ha'.1 hb'.1
                simp only [Op.eqFields, if_pos hn, Sem.run_bind, part_one (kOf_agg h3) hu, part_one (kOf_agg h3) hv, Result.andThen_ok, hq]
                cases q' with
                | true => simpa using ih
                | false => simp
          · cases he
    · cases hk

theorem eqItems_run {c : Cx} {xs ys : Array Value} {w : World} {e : TypeId} {k : Nat} (hk : kOf P e = some k) (d : Nat) : ∀ (n off : Nat) (as bs : List AV) (r : Bool), eqCells (List.replicate n k) as bs = some r →
    RelVs c as (xs.toList.drop off) → RelVs c bs (ys.toList.drop off) → (Op.eqItems (d + 1) e 1 xs ys (List.range' off n)).run P w = .ok r w
  | 0, off, as, bs, r, he, _, _ => by
    cases as with
    | nil =>
      cases bs with
      | nil => simp only [List.replicate_zero, eqCells, Option.some.injEq] at he; subst he; simp [Op.eqItems]
      | cons _ _ => simp [eqCells] at he
    | cons _ _ => simp [eqCells] at he
  | n + 1, off, as, bs, r, he, ha, hb => by
    simp only [List.replicate_succ] at he
    cases as with
    | nil => simp [eqCells] at he
    | cons a as =>
      cases bs with
      | nil => simp [eqCells] at he
      | cons b bs =>
        simp only [eqCells] at he
        split at he
        · rename_i q' r' e1 e2
          simp only [Option.some.injEq] at he
          subst he
          cases hxd : xs.toList.drop off with
          | nil => rw [hxd] at ha; simp [RelVs] at ha
          | cons u us =>
            cases hyd : ys.toList.drop off with
            | nil => rw [hyd] at hb; simp [RelVs] at hb
            | cons v vs =>
              have ha' := ha
              have hb' := hb
              rw [hxd] at ha'
              rw [hyd] at hb'
              simp only [RelVs] at ha' hb'
              have hu : xs[off * 1]? = some u := by
                have := congrArg (fun l => l[0]?) hxd
                simpa using this
              have hv : ys[off * 1]? = some v := by
                have := congrArg (fun l => l[0]?) hyd
                simpa using this
              have hx1 : xs.toList.drop (off + 1) = us := by
                have := congrArg (List.drop 1) hxd
                simpa [List.drop_drop] using this
              have hy1 : ys.toList.drop (off + 1) = vs := by
                have := congrArg (List.drop 1) hyd
                simpa [List.drop_drop] using this
              have ih := eqItems_run (c := c) (xs := xs) (ys := ys) (w := w) hk d n (off + 1) as bs r' e2 (by rw [hx1]; exact ha'.2) (by rw [hy1]; exact hb'.2)
              have hq := eq1_run (d := d) (w := w) hk e1 ha'.1 hb'.1
              simp only [List.range'_succ, Op.eqItems, Sem.run_bind, part_one (kOf_agg hk) hu, part_one (kOf_agg hk) hv, Result.andThen_ok, hq]
              cases q' with
              | true => simpa using ih
              | false => simp
        · cases he

/-- Which cells a comparison of structs or arrays looks at. -/
def eqKs (P : Program) (t : TypeId) : Option (List Nat) :=
  match P.underlying t with
  | some (.struct fs) => (match P.stoodInHeld t with
    | false => fKs P fs.toList 0
    | true => none)
  | some (.array n e) => (match kOf P e, tSize P e with
    | some k, some 1 => some (List.replicate n k)
    | _, _ => none)
  | _ => none

theorem equalIn_agg {t : TypeId} {ks : List Nat} {as bs : List AV} {r : Bool} {c : Cx} {xs ys : Array Value} (hk : eqKs P t = some ks) (he : eqCells ks as bs = some r) (ha : RelVs c as xs.toList) (hb : RelVs c bs ys.toList) (w : World) :
    (Op.equalIn 10000 t (.agg xs) (.agg ys)).run P w = .ok r w := by
  unfold eqKs at hk
  split at hk
  · rename_i fs hu
    split at hk
    · rename_i hsi
      have hf : P.fieldsOf t = fs := by simp [Program.fieldsOf, hu]
      rw [run_equalIn_struct w 9999 t xs ys (by rw [hf]; exact hu) hsi, hf]
      exact eqFields_run 9998 fs.toList 0 ks as bs r hk he (by simpa using ha) (by simpa using hb)
    · cases hk
  · rename_i n e hu
    split at hk
    · rename_i k h1 h2
      simp only [Option.some.injEq] at hk
      subst hk
      obtain ⟨i, hi, hsz⟩ := Option.map_eq_some_iff.1 h2
      have hc : P.cellsOf e = 1 := by simp [Program.cellsOf, hi, hsz]
      rw [run_equalIn_array w 9999 xs ys hu hi, hc, List.range_eq_range']
      exact eqItems_run h1 9998 n 0 as bs r he (by simpa using ha) (by simpa using hb)
    · cases hk
  · cases hk

theorem lop_eqA {ox oy : Operand} {x y : X} {ne : Bool} {t t' : TypeId} {ks : List Nat} (ho : o.op = .binOp (if ne then .neq else .eql) t ox oy t') (hk : eqKs P t = some ks) (hg : P.eqGuardType P.depth t = false)
    (hx : convX ox = some x) (hy : convX oy = some y) (h : lop env H (.eqA ne ks x y) K) : ∃ v tch, K v tch ∧ Ylds P o (x.tmps ++ y.tmps) env H v tch := by
  obtain ⟨a, ha, hra⟩ := gx_sound hx h
  obtain ⟨b, hb, hrb⟩ := gx_sound hy ha
  cases a with
  | agg as =>
    cases b with
    | agg bs =>
      simp only at hb
      cases he : eqCells ks as bs with
      | none => simp [he] at hb
      | some r =>
        simp only [he] at hb
        have vals : ∀ (c : Cx) (act : Act), Known c env act.tmps (x.tmps ++ y.tmps) → ∃ xs ys, act.eval ox = .agg xs ∧ act.eval oy = .agg ys ∧ (Op.equalIn 10000 t (.agg xs) (.agg ys)).run P c.w = .ok r c.w := by
          intro c act hkn
          have e1 := hra c act (hkn.sub fun t ht => by simp [ht])
          have e2 := hrb c act (hkn.sub fun t ht => by simp [ht])
          simp only [RelV] at e1 e2
          obtain ⟨xs, f1, r1⟩ := e1
          obtain ⟨ys, f2, r2⟩ := e2
          exact ⟨xs, ys, f1, f2, equalIn_agg hk he r1 r2 c.w⟩
        cases ne with
        | true =>
          refine ⟨_, none, hb, fun c act hkn _ => ⟨.bool (!r), ?_, by simp [RelV]⟩⟩
          obtain ⟨xs, ys, f1, f2, f3⟩ := vals c act hkn
          simp [execOp, ho, f1, f2, run_eqGuard_agg _ _ _ _ _ _ _ hg, run_neq_struct, f3]
        | false =>
          refine ⟨_, none, hb, fun c act hkn _ => ⟨.bool r, ?_, by simp [RelV]⟩⟩
          obtain ⟨xs, ys, f1, f2, f3⟩ := vals c act hkn
          simp [execOp, ho, f1, f2, run_eqGuard_agg _ _ _ _ _ _ _ hg, run_eql_struct, f3]
    | _ => exact hb.elim
  | _ => cases b <;> exact hb.elim

end
end Go.Hb

namespace Go.Hb
open Go.RowKit

/-- What is known of the program's own variables. -/
class Amb where
  holds : World → (Nat → Prop) → Prop
  mono : ∀ {w w' : World} {I I' : Nat → Prop}, (∀ k, I k → I' k) → (∀ k, I k → w'.heap[k]? = w.heap[k]?) → holds w I → holds w' I'
variable [Amb]
structure Bnd (w : World) (I : Nat → Prop) : Prop where
  lt : ∀ k, I k → k < w.heap.size
  amb : Amb.holds w I
instance {w : World} {I : Nat → Prop} : CoeFun (Bnd w I) fun _ => ∀ k, I k → k < w.heap.size := ⟨Bnd.lt⟩
theorem Bnd.ext {x y : Cx} (h : Bnd x.w x.I) (he : Ext x y) (hlt : ∀ k, y.I k → k < y.w.heap.size) : Bnd y.w y.I := ⟨hlt, Amb.mono he.sub he.kept h.amb⟩

def Blk.live : Blk → Bool
  | .dead => false
  | _ => true

/-- A row of nothing, of which there need be no block. -/
def Blk.void : Blk → Prop
  | .rows n _ _ => n = 0
  | _ => False

/-- What holds of the blocks that the call may write. -/
structure HOk (W : Nat → Prop) (x : Cx) (H : List (Nat × Blk)) (nxt : Nat) : Prop where
  keys : ∀ id k, lk id H = some k → id < nxt
  blk : ∀ id k, lk id H = some k → k.live = true → (k.void ∧ x.loc id = none) ∨ ∃ b, x.loc id = some b ∧ W b ∧ ¬ x.I b ∧ b < x.w.heap.size ∧ BlkRel x k b
  inj : ∀ id id' k k' b, lk id H = some k → lk id' H = some k' → k.live = true → k'.live = true → x.loc id = some b → x.loc id' = some b → id = id'
  fresh : ∀ id, nxt ≤ id → x.loc id = none
  bound : Bnd x.w x.I
  room : ∀ b, x.w.heap.size ≤ b → W b

/-- From one place to a later one, within what may be written. -/
structure Step (W : Nat → Prop) (x y : Cx) : Prop where
  ext : Ext x y
  os : y.w.os = x.w.os
  tape : y.w.tape = x.w.tape
  output : y.w.output = x.w.output
  frame : ∀ k, ¬ W k → y.w.heap[k]? = x.w.heap[k]?
  new : ∀ k, y.I k → x.I k ∨ W k

theorem Step.refl (W : Nat → Prop) (x : Cx) : Step W x x := ⟨Ext.refl x, rfl, rfl, rfl, fun _ _ => rfl, fun _ h => .inl h⟩
theorem Step.trans {W : Nat → Prop} {x y z : Cx} (h : Step W x y) (k : Step W y z) : Step W x z :=
  ⟨h.ext.trans k.ext, k.os.trans h.os, k.tape.trans h.tape, k.output.trans h.output, fun i hi => (k.frame i hi).trans (h.frame i hi), fun i hi => by
    rcases k.new i hi with h1 | h1
    · exact h.new i h1
    · exact .inr h1⟩

def EnvOk (x : Cx) (env : List (Nat × AV)) (tmps : Array Value) : Prop := ∀ t v, lk t env = some v → ∃ u, tmps[t]? = some u ∧ RelV x v u
theorem EnvOk.known {x : Cx} {env : List (Nat × AV)} {tmps : Array Value} (h : EnvOk x env tmps) (ts : List Nat) : Known x env tmps ts := fun t _ v hv => h t v hv
theorem EnvOk.mono {x y : Cx} (h : Ext x y) {env : List (Nat × AV)} {tmps : Array Value} (k : EnvOk x env tmps) : EnvOk y env tmps := fun t v hv => by
  obtain ⟨u, hu, hr⟩ := k t v hv
  exact ⟨u, hu, RelV.mono h _ _ hr⟩

structure St where
  env : List (Nat × AV)
  H : List (Nat × Blk)
  nxt : Nat

def St.put (σ : St) (d : Option Nat) (v : AV) : St :=
  match d with
  | none => σ
  | some d => { env := (d, v) :: σ.env, H := σ.H, nxt := σ.nxt }

theorem EnvOk.put {x : Cx} {env : List (Nat × AV)} {a : Act} {d : Nat} {v : AV} {u : Value} (h : EnvOk x env a.tmps) (hv : RelV x v u) (hd : d < a.tmps.size) : EnvOk x ((d, v) :: env) (a.put (some d) u).tmps := by
  intro t v' ht
  rw [lk_cons] at ht
  by_cases hc : t = d
  · rw [if_pos hc] at ht
    cases ht
    subst hc
    exact ⟨u, by simp [Act.put, hd], hv⟩
  · rw [if_neg hc] at ht
    obtain ⟨u', hu', hr'⟩ := h t v' ht
    refine ⟨u', ?_, hr'⟩
    simp only [Act.put]
    rw [Array.getElem?_setIfInBounds_ne (fun e => hc e.symm)]
    exact hu'

/-- The state, held against a frame's slots and the world. -/
def SRel (W : Nat → Prop) (x0 : Cx) (N : Nat) (σ : St) (a : Act) (w : World) : Prop :=
  ∃ x : Cx, x.w = w ∧ Step W x0 x ∧ HOk W x σ.H σ.nxt ∧ EnvOk x σ.env a.tmps ∧ a.tmps.size = N ∧ a.defers = []

theorem SRel.put {W : Nat → Prop} {x0 : Cx} {N : Nat} {σ : St} {a : Act} {d : Option Nat} {v : AV} {u : Value} {x : Cx} (hs : Step W x0 x) (hh : HOk W x σ.H σ.nxt) (he : EnvOk x σ.env a.tmps) (hn : a.tmps.size = N) (hd : a.defers = [])
    (hv : RelV x v u) (hdN : ∀ t, d = some t → t < N) : SRel W x0 N (σ.put d v) (a.put d u) x.w := by
  cases d with
  | none => exact ⟨x, rfl, hs, hh, he, hn, hd⟩
  | some d =>
    exact ⟨x, rfl, hs, hh, he.put hv (by rw [hn]; exact hdN d rfl), by simp [Act.put, hn], hd⟩

theorem convX_tmps {o : Operand} {x : X} (h : convX o = some x) : ∀ t ∈ x.tmps, o = .tmp t := by
  intro t ht
  cases o with
  | tmp n => simp only [convX, Option.some.injEq] at h; subst h; simp [X.tmps] at ht; rw [ht]
  | const v =>
    simp only [convX] at h
    split at h
    · simp only [Option.some.injEq] at h; subst h; simp [X.tmps] at ht
    · cases h
  | func f => simp only [convX, Option.some.injEq] at h; subst h; simp [X.tmps] at ht
  | global g => simp [convX] at h

theorem convXs_tmps : ∀ {os : List Operand} {xs : List X}, convXs os = some xs → ∀ t ∈ tmpsOf xs, .tmp t ∈ os
  | [], xs, h, t, ht => by simp only [convXs, Option.some.injEq] at h; subst h; simp [tmpsOf] at ht
  | o :: os, xs, h, t, ht => by
    simp only [convXs] at h
    split at h
    · rename_i x xs' h1 h2
      simp only [Option.some.injEq] at h
      subst h
      simp only [tmpsOf, List.flatMap_cons, List.mem_append] at ht
      rcases ht with ht | ht
      · rw [convX_tmps h1 t ht]; simp
      · exact List.mem_cons_of_mem _ (convXs_tmps h2 t ht)
    · cases h

theorem convXo_tmps {o : Option Operand} {x : Option X} (h : convXo o = some x) : ∀ t ∈ tmpsO x, o = some (.tmp t) := by
  intro t ht
  cases o with
  | none => simp only [convXo, Option.some.injEq] at h; subst h; simp [tmpsO] at ht
  | some o =>
    simp only [convXo, Option.map_eq_some_iff] at h
    obtain ⟨y, hy, rfl⟩ := h
    rw [convX_tmps hy t ht]

theorem convParts_tmps {pl : Nat → Option (Nat × Nat)} : ∀ {l : List (Nat × Operand)} {ps : List (Nat × Nat × X)}, convParts pl l = some ps → ∀ t ∈ tmpsParts ps, .tmp t ∈ l.map (·.2)
  | [], ps, h, t, ht => by simp only [convParts, Option.some.injEq] at h; subst h; simp [tmpsParts] at ht
  | (i, o) :: l, ps, h, t, ht => by
    simp only [convParts] at h
    split at h
    · rename_i off n x xs h1 h2 h3
      simp only [Option.some.injEq] at h
      subst h
      simp only [tmpsParts, List.mem_append] at ht
      rcases ht with ht | ht
      · rw [convX_tmps h2 t ht]; simp
      · simp only [List.map_cons]; exact List.mem_cons_of_mem _ (convParts_tmps h3 t ht)
    · cases h

/-- What an operation looks at is known. -/
def KnownOp (x : Cx) (env : List (Nat × AV)) (tmps : Array Value) (o : Oper) : Prop := ∀ t, Operand.tmp t ∈ o.op.operands.toList → ∀ v, lk t env = some v → ∃ u, tmps[t]? = some u ∧ RelV x v u
theorem KnownOp.on {x : Cx} {env : List (Nat × AV)} {tmps : Array Value} {o : Oper} {ts : List Nat} (h : KnownOp x env tmps o) (hs : ∀ t ∈ ts, Operand.tmp t ∈ o.op.operands.toList) : Known x env tmps ts := fun t ht => h t (hs t ht)
theorem EnvOk.op {x : Cx} {env : List (Nat × AV)} {tmps : Array Value} (h : EnvOk x env tmps) (o : Oper) : KnownOp x env tmps o := fun t _ v hv => h t v hv

/-! ### New blocks, and stores -/

def Cx.new (x : Cx) (id : Nat) (o : Obj) : Cx := { w := x.w.alloc o, I := x.I, loc := fun i => if i = id then some x.w.heap.size else x.loc i }

theorem heap_alloc (w : World) (o : Obj) (k : Nat) (h : k < w.heap.size) : (w.alloc o).heap[k]? = w.heap[k]? := by
  show (w.heap.push o)[k]? = _
  rw [Array.getElem?_push, if_neg (by omega)]
theorem heap_alloc_new' (w : World) (o : Obj) : (w.alloc o).heap[w.heap.size]? = some o := by
  show (w.heap.push o)[w.heap.size]? = _
  simp

theorem Step.new_ {W : Nat → Prop} {x : Cx} {H : List (Nat × Blk)} {nxt : Nat} (h : HOk W x H nxt) (o : Obj) : Step W x (x.new nxt o) := by
  have old : ∀ k, k < x.w.heap.size → (x.new nxt o).w.heap[k]? = x.w.heap[k]? := fun k hk => heap_alloc _ _ _ hk
  refine ⟨⟨fun id b e => ?_, fun _ h => h, fun k hk => old k (h.bound k hk), by simp [Cx.new], fun k cs ty fr e => ?_⟩, rfl, rfl, rfl, fun k hk => ?_, fun _ h => .inl h⟩
  · simp only [Cx.new]
    by_cases hc : id = nxt
    · subst hc
      rw [h.fresh id (Nat.le_refl _)] at e
      cases e
    · rw [if_neg hc]; exact e
  · have hk : k < x.w.heap.size := (Array.getElem?_eq_some_iff.1 e).1
    exact ⟨cs, fr, (old k hk).trans e, rfl⟩
  · rcases Nat.lt_or_ge k x.w.heap.size with hk' | hk'
    · exact old k hk'
    · exact absurd (h.room k hk') hk

theorem HOk.at_ {W : Nat → Prop} {x : Cx} {H : List (Nat × Blk)} {nxt id b : Nat} {k : Blk} (h : HOk W x H nxt) (hk : lk id H = some k) (hl : k.live = true) (hb : x.loc id = some b) : W b ∧ ¬ x.I b ∧ b < x.w.heap.size ∧ BlkRel x k b := by
  rcases h.blk id k hk hl with ⟨_, e⟩ | ⟨b', e, r⟩
  · rw [hb] at e; cases e
  · rw [hb] at e; cases e; exact r

theorem HOk.new_ {W : Nat → Prop} {x : Cx} {H : List (Nat × Blk)} {nxt : Nat} (h : HOk W x H nxt) (o : Obj) (blk : Blk) (hb : BlkRel (x.new nxt o) blk x.w.heap.size) : HOk W (x.new nxt o) ((nxt, blk) :: H) (nxt + 1) := by
  have hs := Step.new_ h o
  have hsz : (x.new nxt o).w.heap.size = x.w.heap.size + 1 := by simp [Cx.new]
  have nw : (x.new nxt o).loc nxt = some x.w.heap.size := by simp [Cx.new]
  have ol : ∀ i, i ≠ nxt → (x.new nxt o).loc i = x.loc i := fun i hi => by simp [Cx.new, hi]
  refine ⟨fun id k hk => ?_, fun id k hk hl => ?_, fun id id' k k' b h1 h2 l1 l2 e1 e2 => ?_, fun id hid => ?_, h.bound.ext hs.ext fun k hk => ?_, fun b hb => h.room b (by omega)⟩
  · rw [lk_cons] at hk
    by_cases hc : id = nxt
    · omega
    · rw [if_neg hc] at hk
      have := h.keys id k hk
      omega
  · rw [lk_cons] at hk
    by_cases hc : id = nxt
    · rw [if_pos hc] at hk
      cases hk
      exact .inr ⟨x.w.heap.size, by rw [hc]; exact nw, h.room _ (Nat.le_refl _), fun hi => absurd (h.bound _ hi) (Nat.lt_irrefl _), by omega, hb⟩
    · rw [if_neg hc] at hk
      rcases h.blk id k hk hl with ⟨h1, h2⟩ | ⟨b, h1, h2, h3, h4, h5⟩
      · exact .inl ⟨h1, by rw [ol _ hc]; exact h2⟩
      · exact .inr ⟨b, hs.ext.loc _ _ h1, h2, h3, by omega, h5.mono hs.ext (heap_alloc _ _ _ h4)⟩
  · rw [lk_cons] at h1 h2
    have old : ∀ i q b, i ≠ nxt → lk i H = some q → q.live = true → (x.new nxt o).loc i = some b → b < x.w.heap.size := fun i q b hi hq hl e => by
      rw [ol _ hi] at e
      exact (h.at_ hq hl e).2.2.1
    by_cases c1 : id = nxt <;> by_cases c2 : id' = nxt
    · rw [c1, c2]
    · rw [if_neg c2] at h2
      have := old _ _ _ c2 h2 l2 e2
      rw [c1, nw] at e1
      cases e1
      exact absurd this (Nat.lt_irrefl _)
    · rw [if_neg c1] at h1
      have := old _ _ _ c1 h1 l1 e1
      rw [c2, nw] at e2
      cases e2
      exact absurd this (Nat.lt_irrefl _)
    · rw [if_neg c1] at h1
      rw [if_neg c2] at h2
      rw [ol _ c1] at e1
      rw [ol _ c2] at e2
      exact h.inj id id' k k' b h1 h2 l1 l2 e1 e2
  · rw [ol id (by omega)]
    exact h.fresh id (by omega)
  · have := h.bound k hk
    omega

/-- Storing a row of cells into a block. -/
theorem storeCells_run {P : Program} {b off : Nat} {ty : TypeId} {fr : Nat × Nat} : ∀ (vs : List Value) (i : Nat) (cur : Array Value) (w : World), w.heap[b]? = some (Obj.cells cur ty fr) → Thaw fr cur.size → off + i + vs.length ≤ cur.size → (∀ v ∈ vs, v.oneCell' = true) →
    ∃ w', (storeCells ⟨b, off, none⟩ vs i).run P w = .ok () w' ∧ w'.heap[b]? = some (Obj.cells ((vs.zipIdx i).foldl (fun (cs : Array Value) (x : Value × Nat) => cs.setIfInBounds (off + x.2) x.1) cur) ty fr) ∧
      (∀ k, k ≠ b → w'.heap[k]? = w.heap[k]?) ∧ w'.heap.size = w.heap.size ∧ w'.os = w.os ∧ w'.tape = w.tape ∧ w'.output = w.output
  | [], _, cur, w, h, _, _, _ => ⟨w, rfl, h, fun _ _ => rfl, rfl, rfl, rfl, rfl⟩
  | v :: vs, i, cur, w, h, hf, hl, h1 => by
    simp only [List.length_cons] at hl
    have hcell : w.cell? ⟨b, off + i, none⟩ = some (cur[off + i]'(by omega)) := by
      rw [cell_of_blk h]
      exact Array.getElem?_eq_getElem _
    have hfz : w.frozen? ⟨b, off + i, none⟩ = false := by
      have := hf (off + i) (by omega)
      simp only [World.frozen?, h]
      cases e : (decide (fr.1 ≤ off + i) && decide (off + i < fr.2)) with
      | false => rfl
      | true =>
        simp at e
        exact absurd e this
    have hst : (store ((⟨b, off, none⟩ : Addr).add i) v).run P w = .ok () (w.setCell ⟨b, off + i, none⟩ v) := by
      rw [add_plain, run_store P w _ v _ (h1 v (by simp)), hcell]
      simp [hfz]
    have hb' : (w.setCell ⟨b, off + i, none⟩ v).heap[b]? = some (Obj.cells (cur.setIfInBounds (off + i) v) ty fr) := by
      simp [World.setCell, Array.getElem?_modify, h]
    obtain ⟨w', r1, r2, r3, r4, r5, r6, r7⟩ := storeCells_run (P := P) (off := off) vs (i + 1) (cur.setIfInBounds (off + i) v) (w.setCell ⟨b, off + i, none⟩ v) hb' (by simpa using hf) (by simp; omega) (fun u hu => h1 u (by simp [hu]))
    refine ⟨w', ?_, ?_, fun k hk => (r3 k hk).trans ?_, r4.trans (by simp), r5, r6, r7⟩
    · simp only [storeCells, Sem.run_bind, hst, Result.andThen_ok, r1]
    · simpa [List.zipIdx_cons] using r2
    · simp [World.setCell, Array.getElem?_modify, Ne.symm hk]

/-- A block of the call's own that has other cells now. -/
theorem Step.set_ {W : Nat → Prop} {x : Cx} {b : Nat} {w' : World} {cs cs' : Array Value} {ty : TypeId} {fr fr' : Nat × Nat} (hW : W b) (hI : ¬ x.I b)
    (hb : x.w.heap[b]? = some (Obj.cells cs ty fr)) (hb' : w'.heap[b]? = some (Obj.cells cs' ty fr')) (hsz : cs'.size = cs.size) (ho : ∀ k, k ≠ b → w'.heap[k]? = x.w.heap[k]?) (hs : w'.heap.size = x.w.heap.size)
    (h5 : w'.os = x.w.os) (h6 : w'.tape = x.w.tape) (h7 : w'.output = x.w.output) : Step W x { w := w', I := x.I, loc := x.loc } := by
  refine ⟨⟨fun _ _ e => e, fun _ h => h, fun k hk => ho k (fun e => hI (e ▸ hk)), by simp [hs], fun k cs0 ty0 fr0 e => ?_⟩, h5, h6, h7, fun k hk => ho k (fun e => hk (e ▸ hW)), fun _ h => .inl h⟩
  by_cases hc : k = b
  · subst hc
    rw [hb] at e
    cases e
    exact ⟨cs', fr', hb', hsz⟩
  · exact ⟨cs0, fr0, (ho k hc).trans e, rfl⟩

theorem HOk.set_ {W : Nat → Prop} {x : Cx} {H : List (Nat × Blk)} {nxt id : Nat} {k k' : Blk} {b : Nat} {w' : World} (h : HOk W x H nxt) (hk : lk id H = some k) (hl : k.live = true) (hloc : x.loc id = some b)
    (hst : Step W x { w := w', I := x.I, loc := x.loc }) (ho : ∀ k, k ≠ b → w'.heap[k]? = x.w.heap[k]?) (hs : w'.heap.size = x.w.heap.size) (hrel : BlkRel { w := w', I := x.I, loc := x.loc } k' b) :
    HOk W { w := w', I := x.I, loc := x.loc } ((id, k') :: H) nxt := by
  obtain ⟨a2, a3, a4, a5⟩ := h.at_ hk hl hloc
  refine ⟨fun i q hq => ?_, fun i q hq hl' => ?_, fun i i' q q' c h1 h2 l1 l2 e e' => ?_, h.fresh, h.bound.ext hst.ext fun i hi => by have := h.bound i hi; simp only; omega, fun i hi => h.room i (by simp only at hi; omega)⟩
  · rw [lk_cons] at hq
    by_cases hc : i = id
    · rw [hc]; exact h.keys id k hk
    · rw [if_neg hc] at hq
      exact h.keys i q hq
  · rw [lk_cons] at hq
    by_cases hc : i = id
    · rw [if_pos hc] at hq
      cases hq
      exact .inr ⟨b, by rw [hc]; exact hloc, a2, a3, by simp only; omega, hrel⟩
    · rw [if_neg hc] at hq
      rcases h.blk i q hq hl' with f | ⟨b'', f1, f2, f3, f4, f5⟩
      · exact .inl f
      · refine .inr ⟨b'', f1, f2, f3, by simp only; omega, f5.mono hst.ext (ho _ fun e => hc ?_)⟩
        exact h.inj i id q k b hq hk hl' hl (by rw [f1, e]) hloc
  · have key : ∀ j r, lk j ((id, k') :: H) = some r → r.live = true → ∃ r', lk j H = some r' ∧ r'.live = true := fun j r hj hlj => by
      rw [lk_cons] at hj
      by_cases hc : j = id
      · exact ⟨k, by rw [hc]; exact hk, hl⟩
      · rw [if_neg hc] at hj
        exact ⟨r, hj, hlj⟩
    obtain ⟨r1, a1, a2⟩ := key i q h1 l1
    obtain ⟨r2, b1, b2⟩ := key i' q' h2 l2
    exact h.inj i i' r1 r2 c a1 b1 a2 b2 e e'

end Go.Hb

namespace Go.Hb
open Go.RowKit
variable [Amb]

def one : AV → Bool
  | .agg _ => false
  | .tup _ => false
  | _ => true
theorem one_rel {c : Cx} {a : AV} {v : Value} (h : one a = true) (hr : RelV c a v) : v.oneCell' = true := by
  cases a with
  | agg _ => simp [one] at h
  | tup _ => simp [one] at h
  | raw u => simp only [RelV] at hr; rw [hr.1]; exact hr.2
  | fs n size cell => simp only [RelV] at hr; exact hr.one
  | fe n size cell => simp only [RelV] at hr; obtain ⟨_, rfl, _⟩ := hr; rfl
  | p _ _ => simp only [RelV] at hr; obtain ⟨_, _, rfl⟩ := hr; rfl
  | pr _ _ _ _ => simp only [RelV] at hr; obtain ⟨_, _, rfl⟩ := hr; rfl
  | sl _ _ _ _ => simp only [RelV] at hr; rcases hr with ⟨_, rfl⟩ | ⟨_, _, _, _, rfl, _⟩ <;> rfl
  | sa _ _ _ _ => simp only [RelV] at hr; obtain ⟨_, _, _, _, rfl, _⟩ := hr; rfl
  | sk _ _ _ _ _ => simp only [RelV] at hr; obtain ⟨_, _, _, rfl, _⟩ := hr; rfl
  | fn _ _ _ => simp only [RelV] at hr; obtain ⟨_, _, rfl, _⟩ := hr; rfl
  | _ => simp only [RelV] at hr; subst hr; rfl

def alls (f : AV → Bool) : List AV → Bool
  | [] => true
  | a :: r => match f a with
    | true => alls f r
    | false => false
theorem alls_spec {f : AV → Bool} : ∀ {l : List AV}, alls f l = true → ∀ a ∈ l, f a = true
  | [], _, _, h => by cases h
  | a :: r, h, b, hb => by
    simp only [alls] at h
    split at h
    · rename_i h1
      rcases List.mem_cons.1 hb with rfl | hb
      · exact h1
      · exact alls_spec h b hb
    · cases h

theorem ones_rel {c : Cx} {as : List AV} {vs : List Value} (h : alls one as = true) (hr : RelVs c as vs) : ∀ v ∈ vs, v.oneCell' = true := by
  intro v hv
  obtain ⟨i, hi⟩ := List.getElem?_of_mem hv
  have hlt : i < as.length := by
    have := (List.getElem?_eq_some_iff.1 hi).1
    have := RelVs_length hr
    omega
  obtain ⟨u, hu, hru⟩ := RelVs_get hr i as[i] (List.getElem?_eq_getElem hlt)
  rw [hi] at hu
  cases hu
  exact one_rel (alls_spec h _ (List.getElem_mem _)) hru

def rp : Nat → List AV → List AV
  | 0, _ => []
  | n + 1, zs => zs ++ rp n zs
theorem rp_length (zs : List AV) : ∀ n, (rp n zs).length = n * zs.length
  | 0 => by simp [rp]
  | n + 1 => by simp [rp, rp_length zs n, Nat.add_mul, Nat.add_comm]
theorem rp_get (zs : List AV) : ∀ (n i : Nat), i < n * zs.length → (rp n zs)[i]? = zs[i % zs.length]?
  | 0, i, h => by simp at h
  | n + 1, i, h => by
    simp only [rp]
    by_cases hc : i < zs.length
    · rw [List.getElem?_append_left hc, Nat.mod_eq_of_lt hc]
    · rw [List.getElem?_append_right (by omega), rp_get zs n (i - zs.length) (by rw [Nat.add_mul] at h; omega)]
      rw [Nat.mod_eq_sub_mod (by omega : i ≥ zs.length)]

/-- A row with some cells of another one in it. -/
def updRow (f : Nat → CV) : Nat → List CV → Nat → CV
  | _, [], q => f q
  | j, c :: cs, q => match Nat.beq q j with
    | true => c
    | false => updRow f (j + 1) cs q
def updCell (cell : Nat → Nat → CV) (i j : Nat) (cs : List CV) : Nat → Nat → CV :=
  fun a q => match Nat.beq a i with
    | true => updRow (cell a) j cs q
    | false => cell a q
theorem updRow_spec (f : Nat → CV) : ∀ (cs : List CV) (j q : Nat), updRow f j cs q = if j ≤ q ∧ q < j + cs.length then cs.getD (q - j) (f q) else f q
  | [], j, q => by simp [updRow]
  | c :: cs, j, q => by
    simp only [updRow]
    by_cases h : q = j
    · subst h
      simp
    · have : Nat.beq q j = false := by
        cases e : Nat.beq q j with
        | false => rfl
        | true => exact absurd (Nat.eq_of_beq_eq_true e) h
      rw [this]
      simp only [updRow_spec f cs (j + 1) q, List.length_cons]
      by_cases h2 : j + 1 ≤ q ∧ q < j + 1 + cs.length
      · rw [if_pos h2, if_pos (by omega), show q - j = (q - (j + 1)) + 1 by omega]
        simp
      · rw [if_neg h2, if_neg (by omega)]

def appCell (n : Nat) (cell news : Nat → Nat → CV) : Nat → Nat → CV :=
  fun a q => match Nat.blt a n with
    | true => cell a q
    | false => news (a - n) q

def listCell (size : Nat) (l : List CV) : Nat → Nat → CV := fun a q => l.getD (a * size + q) (.b false)

inductive HO where
  | alloc (zs : List AV)
  | box (x : X)
  | bslice (size len : Nat) (zs : List AV) (parts : List (Nat × Nat × X))
  | store (sz : Nat) (a v : X)
  | mks (size bytes : Nat) (zs : List AV) (l c : X)
  | app (size bytes : Nat) (s x : X)
  | appz (size bytes : Nat) (zs : List AV) (s x : X)
  | copy (size : Nat) (d s : X)
  | clear (size : Nat) (zs : List AV) (x : X)
  | eqn (ne : Bool) (x : X)
  | s2b (x : X)
  | eqi (ne : Bool) (x : X)
  | call (f : X) (args : List X)

/-- What is appended. -/
def news (H : List (Nat × Blk)) (size : Nat) (v : AV) (K : Nat → (Nat → Nat → CV) → Prop) : Prop :=
  match v with
  | .nils => K 0 fun _ _ => .b false
  | .s s => match Nat.beq size 1 with
    | true => K s.size fun i _ => .i .u8 ((s.data[i]?.getD 0).toNat : Int)
    | false => False
  | .fs m size' cell => match Nat.beq size size' with
    | true => K m cell
    | false => False
  | .sl id size' start m => match Nat.beq size size' with
    | true => (match lk id H with
      | some (.rows n size'' cell) => match Nat.beq size size'' with
        | true => start + m ≤ n ∧ K m fun i j => cell (start + i) j
        | false => False
      | _ => False)
    | false => False
  | .sa id size' off m => match Nat.beq size size' with
    | true => (match lk id H with
      | some (.lit cs) => match takeAt cs off (m * size) with
        | some l => (match cvs l with
          | some cl => K m (listCell size cl)
          | none => False)
        | none => False
      | _ => False)
    | false => False
  | .sk id size' start m _ => match Nat.beq size size' with
    | true => (match lk id H with
      | some (.rows n size'' cell) => match Nat.beq size size'' with
        | true => start + m ≤ n ∧ K m fun i j => cell (start + i) j
        | false => False
      | _ => False)
    | false => False
  | _ => False

/-- That to which is appended: its id, if it has one. -/
def olds (H : List (Nat × Blk)) (size : Nat) (v : AV) (K : Option Nat → Nat → (Nat → Nat → CV) → Prop) : Prop :=
  match v with
  | .nils => K none 0 fun _ _ => .b false
  | .sl id size' start n => match Nat.beq size size', Nat.beq start 0 with
    | true, true => (match lk id H with
      | some (.rows n' size'' cell) => match Nat.beq size size'' with
        | true => n ≤ n' ∧ K (some id) n cell
        | false => False
      | _ => False)
    | _, _ => False
  | .sa id size' off n => match Nat.beq size size', Nat.beq off 0 with
    | true, true => (match lk id H with
      | some (.lit cs) => match takeAt cs 0 (n * size) with
        | some l => (match cvs l with
          | some cl => K (some id) n (listCell size cl)
          | none => False)
        | none => False
      | _ => False)
    | _, _ => False
  | _ => False

def killed (id : Option Nat) (H : List (Nat × Blk)) : List (Nat × Blk) :=
  match id with
  | none => H
  | some id => (id, .dead) :: H

/-- What append leaves. -/
def appK (σ : St) (size bytes : Nat) (sv : AV) (m : Nat) (nw : Nat → Nat → CV) (K : AV → St → Prop) : Prop :=
  match sv with
  | .sk id size' start n cap => (match Nat.beq size size', Nat.beq start 0, lk id σ.H with
    | true, true, some (.rows n' size'' cell) => (match Nat.beq size size'' with
      | true => n ≤ n' ∧ (n + m) * bytes ≤ 140737488355328 ∧ (n + m ≤ cap → K (.sk id size 0 (n + m) cap) { env := σ.env, H := (id, .rows (n + m) size (appCell n cell nw)) :: σ.H, nxt := σ.nxt }) ∧
        (cap < n + m → K (.sl σ.nxt size 0 (n + m)) { env := σ.env, H := (σ.nxt, .rows (n + m) size (appCell n cell nw)) :: σ.H, nxt := σ.nxt + 1 })
      | false => False)
    | _, _, _ => False)
  | sv => olds σ.H size sv fun id n cell => (n + m) * bytes ≤ 140737488355328 ∧ K (.sl σ.nxt size 0 (n + m)) { env := σ.env, H := (σ.nxt, .rows (n + m) size (appCell n cell nw)) :: killed id σ.H, nxt := σ.nxt + 1 }

def avLen : AV → Nat
  | .sl _ _ _ n => n
  | .sk _ _ _ n _ => n
  | .sa _ _ _ n => n
  | _ => 0
/-- No more of it than is asked. -/
def shrink (dl : Nat) : AV → AV
  | .sk id size st m c => .sk id size st (min m dl) c
  | a => a

/-- Some rows in the place of others. -/
def cpCell (start c : Nat) (cell nw : Nat → Nat → CV) : Nat → Nat → CV :=
  fun a q => match Nat.ble start a, Nat.blt a (start + c) with
    | true, true => nw (a - start) q
    | _, _ => cell a q

def hop (o : HO) (σ : St) (K : AV → St → Prop) : Prop :=
  match o with
  | .alloc zs => K (.p σ.nxt 0) { env := σ.env, H := (σ.nxt, .lit zs) :: σ.H, nxt := σ.nxt + 1 }
  | .box x => gx σ.env (fun v => K (.p σ.nxt 0) { env := σ.env, H := (σ.nxt, .lit v.cells) :: σ.H, nxt := σ.nxt + 1 }) x
  | .bslice size len zs parts => gparts σ.env parts fun ps => fillAt (rp len zs) ps fun cs => K (.sa σ.nxt size 0 len) { env := σ.env, H := (σ.nxt, .lit cs) :: σ.H, nxt := σ.nxt + 1 }
  | .store sz a v => gx σ.env (fun pa => gx σ.env (fun u => match Nat.beq u.cells.length sz, alls one u.cells with
    | true, true => (match pa with
      | .p id k => (match lk id σ.H with
        | some (.lit cs) => (match Nat.ble (k + sz) cs.length with
          | true => K (.tup []) { env := σ.env, H := (id, .lit (setAt cs k u.cells)) :: σ.H, nxt := σ.nxt }
          | false => False)
        | _ => False)
      | .pr id size i j => (match lk id σ.H with
        | some (.rows n size' cell) => (match Nat.beq size size', Nat.ble (j + sz) size, cvs u.cells with
          | true, true, some cl => i < n ∧ K (.tup []) { env := σ.env, H := (id, .rows n size (updCell cell i j cl)) :: σ.H, nxt := σ.nxt }
          | _, _, _ => False)
        | _ => False)
      | _ => False)
    | _, _ => False) v) a
  | .mks size bytes zs l c => gx σ.env (fun lv => gx σ.env (fun cv => match lv, cv with
    | .i _ y, .i _ z => (match cvs zs with
      | some zl => ∃ n m : Nat, y = (n : Int) ∧ z = (m : Int) ∧ n ≤ m ∧ m * bytes ≤ 140737488355328 ∧
          K (.sl σ.nxt size 0 n) { env := σ.env, H := (σ.nxt, .rows m size fun _ j => zl.getD j (.b false)) :: σ.H, nxt := σ.nxt + 1 }
      | none => False)
    | _, _ => False) c) l
  | .app size bytes s x => gx σ.env (fun sv => gx σ.env (fun xv => news σ.H size xv fun m nw => appK σ size bytes sv m nw K) x) s
  | .appz size bytes zs s x => gx σ.env (fun sv => gx σ.env (fun xv => match xv with
    | .i _ z => (match cvs zs with
      | some zl => ∃ m : Nat, z = (m : Int) ∧ m * bytes ≤ 140737488355328 ∧ appK σ size bytes sv m (fun _ j => zl.getD j (.b false)) K
      | none => False)
    | _ => False) x) s
  | .copy size d s => gx σ.env (fun dv => gx σ.env (fun sv => news σ.H size (shrink (avLen dv) sv) fun m nw => match dv with
    | .nils => K (.i .i64 ((0 : Nat) : Int)) σ
    | .sl id size' start dl => (match Nat.beq size size', lk id σ.H with
      | true, some (.rows n size'' cell) => (match Nat.beq size size'' with
        | true => start ≤ n ∧ K (.i .i64 ((min m dl : Nat) : Int)) { env := σ.env, H := (id, .rows (max n (start + min m dl)) size (cpCell start (min m dl) cell nw)) :: σ.H, nxt := σ.nxt }
        | false => False)
      | _, _ => False)
    | .sk id size' start dl _ => (match Nat.beq size size', lk id σ.H with
      | true, some (.rows n size'' cell) => (match Nat.beq size size'' with
        | true => start ≤ n ∧ K (.i .i64 ((min m dl : Nat) : Int)) { env := σ.env, H := (id, .rows (max n (start + min m dl)) size (cpCell start (min m dl) cell nw)) :: σ.H, nxt := σ.nxt }
        | false => False)
      | _, _ => False)
    | _ => False) s) d
  | .clear size zs x => gx σ.env (fun v => match cvs zs with
    | some zl => (match v with
      | .nils => K (.tup []) σ
      | .sl id size' start dl => (match Nat.beq size size', lk id σ.H with
        | true, some (.rows n size'' cell) => (match Nat.beq size size'' with
          | true => K (.tup []) { env := σ.env, H := (id, .rows n size (cpCell start dl cell fun _ j => zl.getD j (.b false))) :: σ.H, nxt := σ.nxt }
          | false => False)
        | _, _ => False)
      | .sk id size' start dl _ => (match Nat.beq size size', lk id σ.H with
        | true, some (.rows n size'' cell) => (match Nat.beq size size'' with
          | true => K (.tup []) { env := σ.env, H := (id, .rows n size (cpCell start dl cell fun _ j => zl.getD j (.b false))) :: σ.H, nxt := σ.nxt }
          | false => False)
        | _, _ => False)
      | _ => False)
    | none => False) x
  | .eqn ne x => gx σ.env (fun v => match v with
    | .nils => K (.b (!ne)) σ
    | .sk _ _ _ _ _ => K (.b ne) σ
    | .sa _ _ _ _ => K (.b ne) σ
    | .fs n _ _ => ∀ b : Bool, (b = true → n = 0) → K (.b (b ^^ ne)) σ
    | .sl _ _ _ n => ∀ b : Bool, (b = true → n = 0) → K (.b (b ^^ ne)) σ
    | _ => False) x
  | .s2b x => gx σ.env (fun v => match v with
    | .s s => K (.fs s.size 1 fun i _ => .i .u8 ((s.data.toList.getD i 0).toNat : Int)) σ
    | _ => False) x
  | .eqi ne x => gx σ.env (fun v => match v with
    | .raw .nilIface => K (.b (!ne)) σ
    | .raw (.iface _ _) => K (.b ne) σ
    | _ => False) x
  | .call _ _ => False

/-- An operation that does something, but calls nothing. -/
def HSound (P : Program) (W : Nat → Prop) (o : Oper) (σ : St) (K : AV → St → Prop) : Prop :=
  ∀ (x : Cx) (a : Act), HOk W x σ.H σ.nxt → KnownOp x σ.env a.tmps o → ∃ v σ' y u, K v σ' ∧ σ'.env = σ.env ∧
    ((execOp a.eval o).run P x.w = .ok (.value u) y.w ∨ ((execOp a.eval o).run P x.w = .ok .skip y.w ∧ u = undef)) ∧ Step W x y ∧ HOk W y σ'.H σ'.nxt ∧ RelV y v u
/-- The same, where what is left does not hang on what was there. -/
def HSound1 (P : Program) (W : Nat → Prop) (o : Oper) (σ : St) (K : AV → St → Prop) : Prop :=
  ∃ v σ', K v σ' ∧ σ'.env = σ.env ∧ ∀ (x : Cx) (a : Act), HOk W x σ.H σ.nxt → KnownOp x σ.env a.tmps o →
    ∃ y u, ((execOp a.eval o).run P x.w = .ok (.value u) y.w ∨ ((execOp a.eval o).run P x.w = .ok .skip y.w ∧ u = undef)) ∧ Step W x y ∧ HOk W y σ'.H σ'.nxt ∧ RelV y v u

section
variable {P : Program} {W : Nat → Prop} {σ : St} {K : AV → St → Prop} {o : Oper}

theorem HSound1.to (h : HSound1 P W o σ K) : HSound P W o σ K := by
  obtain ⟨v, σ', hK, he, hr⟩ := h
  intro x a hh hk
  obtain ⟨y, u, r⟩ := hr x a hh hk
  exact ⟨v, σ', y, u, hK, he, r⟩

theorem p_new (x : Cx) (id : Nat) (ob : Obj) : RelV (x.new id ob) (.p id 0) (.pointer (some ⟨x.w.heap.size, 0, none⟩)) := by
  simp only [RelV]
  exact ⟨x.w.heap.size, by simp [Cx.new], rfl⟩

theorem hop_alloc {t : TypeId} {zs : List AV} (ho : o.op = .alloc t) (hz : zCells P t = some zs) (h : hop (.alloc zs) σ K) : HSound1 P W o σ K := by
  obtain ⟨z, hz, hzr, _⟩ := zCells_spec hz
  refine ⟨_, _, h, rfl, fun x a hh he => ⟨x.new σ.nxt (.cells z.cells t (0, 0)), _, .inl ?_, Step.new_ hh _, HOk.new_ hh _ _ ?_, p_new _ _ _⟩⟩
  · simp [execOp, ho, Instr.alloc, zeroValue_run hz, newVar, newRow, Cx.new]
  · exact ⟨z.cells, t, (0, 0), heap_alloc_new' _ _, Thaw.zero _, hzr _⟩

theorem hop_box {t : TypeId} {ox : Operand} {x : X} (ho : o.op = .box t ox) (hx : convX ox = some x) (h : hop (.box x) σ K) : HSound1 P W o σ K := by
  obtain ⟨v, hv, hr⟩ := gx_sound hx h
  refine ⟨_, _, hv, rfl, fun c a hh he => ⟨c.new σ.nxt (.cells (a.eval ox).cells t (0, 0)), _, .inl ?_, Step.new_ hh _, HOk.new_ hh _ _ ?_, p_new _ _ _⟩⟩
  · simp [execOp, ho, Instr.box, newVar, newRow, Cx.new]
  · exact ⟨_, t, (0, 0), heap_alloc_new' _ _, Thaw.zero _, RelVs.mono (Step.new_ hh _).ext _ _ (cells_rel (hr c a (he.on fun t ht => by simp [ho, Op.operands, convX_tmps hx t ht])))⟩

theorem hop_bslice {t el : TypeId} {len size : Nat} {parts : Array (Nat × Operand)} {zs : List AV} {ps : List (Nat × Nat × X)} (ho : o.op = .buildSlice t len parts) (ht : tSlice P t = some el) (hs : tSize P el = some size) (hle : len * size ≤ 2 ^ 24)
    (hz : zCells P el = some zs) (hzl : zs.length = size) (hp : convParts (arrPl size) parts.toList = some ps) (h : hop (.bslice size len zs ps) σ K) : HSound1 P W o σ K := by
  obtain ⟨vs, hvs, hr⟩ := gparts_sound hp h
  obtain ⟨r, hK, hrl, hsd⟩ := fill_sound (place := arrPl size) hvs
  obtain ⟨z, hz, hzr, _⟩ := zCells_spec hz
  have hzsz : z.cells.size = size := by
    have := RelVs_length (hzr { w := default, I := fun _ => False, loc := fun _ => none })
    simp at this
    omega
  refine ⟨_, _, hK, rfl, fun c a hh he => ?_⟩
  have hinit : RelVs c (rp len zs) ((Array.range (len * size)).map fun i => z.cells[i % z.cells.size]!).toList := by
    refine RelVs_of (by simp [rp_length, hzl]) fun i b v hb hv => ?_
    have hi : i < len * zs.length := by
      have := (List.getElem?_eq_some_iff.1 hb).1
      rwa [rp_length] at this
    rw [rp_get zs len i hi] at hb
    obtain ⟨u, hu, hru⟩ := RelVs_get (hzr c) _ _ hb
    rw [hzl] at hi hu
    have e : ((Array.range (len * size)).map fun i => z.cells[i % z.cells.size]!).toList[i]? = some (z.cells[i % z.cells.size]!) := by
      simp [hi]
    rw [e] at hv
    cases hv
    have hu' : z.cells[i % size]? = some u := by simpa using hu
    rw [hzsz, getElem!_def, hu']
    exact hru
  obtain ⟨cs', h1, h2⟩ := hsd c _ _ hinit (hr c a (he.on fun t ht => by simpa [ho, Op.operands] using convParts_tmps hp t ht))
  have hst := Step.new_ (x := c) hh (.cells cs' el (0, 0))
  refine ⟨c.new σ.nxt (.cells cs' el (0, 0)), .slice (some ⟨c.w.heap.size, 0, none⟩) len len, .inl ?_, hst, HOk.new_ hh _ _ ?_, ?_⟩
  · have e : (fun x : Nat × Operand => (x.1, a.eval x.2)) = (fun (x : Nat × Operand) => match x with | (i, x) => (i, a.eval x)) := by
      funext ⟨p, q⟩; rfl
    have e2 : (fun i : Nat => some (i * size, size)) = arrPl size := rfl
    have hgt : ¬ len * size > 2 ^ 24 := by omega
    simp only [execOp, ho, Instr.buildSlice, Sem.run_bind, run_underlying (tSlice_spec ht), Result.andThen_ok, sizeOf_run hs, if_neg hgt, Sem.run_pure]
    by_cases h0 : len * size = 0
    · have hz0 : ((Array.range (len * size)).map fun i => z.cells[i % z.cells.size]!) = ((Array.range (len * size)).map fun i => (#[] : Array Value)[i % (#[] : Array Value).size]!) := by
        rw [h0]; simp
      rw [hz0] at h1
      simp only [if_pos h0, pure_bind, Sem.run_pure, Result.andThen_ok]
      simp only [Array.toList_map] at h1 ⊢
      rw [← e, e2, h1]
      simp [newRow, Cx.new]
    · simp only [if_neg h0, Sem.run_bind, zeroValue_run hz, Sem.run_pure, Result.andThen_ok]
      simp only [Array.toList_map] at h1 ⊢
      rw [← e, e2, h1]
      simp [newRow, Cx.new]
  · exact ⟨cs', el, (0, 0), heap_alloc_new' _ _, Thaw.zero _, RelVs.mono hst.ext _ _ h2⟩
  · simp only [RelV]
    have hcs : cs'.size = len * size := by
      have := RelVs_length h2
      simp [hrl, rp_length, hzl] at this
      exact this
    exact ⟨c.w.heap.size, len, 0, by simp [Cx.new], rfl, Nat.le_refl _, fun _ => rfl, cs', el, (0, 0), heap_alloc_new' _ _, by omega⟩

theorem hop_store {t : TypeId} {oa ov : Operand} {xa xv : X} {sz : Nat} (ho : o.op = .store t oa ov) (hs : tSize P t = some sz) (ha : convX oa = some xa) (hv : convX ov = some xv) (h : hop (.store sz xa xv) σ K) : HSound1 P W o σ K := by
  obtain ⟨pa, hpa, hra⟩ := gx_sound ha h
  obtain ⟨u, hu, hru⟩ := gx_sound hv hpa
  cases h1 : Nat.beq u.cells.length sz with
  | false => simp [h1] at hu
  | true =>
    cases h2 : alls one u.cells with
    | false => simp [h1, h2] at hu
    | true =>
      simp only [h1, h2] at hu
      have hlen := Nat.eq_of_beq_eq_true h1
      have ka : ∀ t' ∈ xa.tmps, Operand.tmp t' ∈ o.op.operands.toList := fun t' ht => by simp [ho, Op.operands, convX_tmps ha t' ht]
      have kv : ∀ t' ∈ xv.tmps, Operand.tmp t' ∈ o.op.operands.toList := fun t' ht => by simp [ho, Op.operands, convX_tmps hv t' ht]
      have hrun : ∀ (x : Cx) (a : Act) (b off : Nat) (w' : World), KnownOp x σ.env a.tmps o → a.eval oa = .pointer (some ⟨b, off, none⟩) → (storeCells ⟨b, off, none⟩ (a.eval ov).cells.toList).run P x.w = .ok () w' →
          (execOp a.eval o).run P x.w = .ok .skip w' := by
        intro x a b off w' he e1 e2
        have hcl := RelVs_length (cells_rel (hru x a (he.on kv)))
        have hz : (a.eval ov).cells.size = sz := by
          have : (a.eval ov).cells.size = u.cells.length := by simpa using hcl
          omega
        simp only [execOp, ho, Instr.storeAt, e1, Instr.sureAddr, Sem.run_bind, Sem.run_pure, Result.andThen_ok, storeVar, sizeOf_run hs, hz]
        simp [e2]
      cases pa with
      | p id k =>
        simp only at hu
        cases hl : lk id σ.H with
        | none => simp [hl] at hu
        | some blk =>
          cases blk with
          | lit cs =>
            simp only [hl] at hu
            cases h3 : Nat.ble (k + sz) cs.length with
            | false => simp [h3] at hu
            | true =>
              simp only [h3] at hu
              have hle := Nat.le_of_ble_eq_true h3
              refine ⟨_, _, hu, rfl, fun x a hh he => ?_⟩
              have hp := hra x a (he.on ka)
              simp only [RelV] at hp
              obtain ⟨b, hloc, ep⟩ := hp
              obtain ⟨hW, hI, hlt, hrel⟩ := hh.at_ hl rfl hloc
              obtain ⟨arr, ty, fr, hheap, hth, hrs⟩ := hrel
              have hcr := cells_rel (hru x a (he.on kv))
              have hcl := RelVs_length hcr
              have hal := RelVs_length hrs
              simp only [Array.length_toList] at hal
              obtain ⟨w', r1, r2, r3, r4, r5, r6, r7⟩ := storeCells_run (P := P) (b := b) (off := k) (a.eval ov).cells.toList 0 arr x.w hheap (hth.le (by omega)) (by omega) (ones_rel h2 hcr)
              have hst : Step W x { w := w', I := x.I, loc := x.loc } := Step.set_ hW hI hheap r2 (by rw [foldl_set_size]) r3 r4 r5 r6 r7
              refine ⟨{ w := w', I := x.I, loc := x.loc }, undef, .inr ⟨hrun x a b k w' he ep r1, rfl⟩, hst, HOk.set_ hh hl rfl hloc hst r3 r4 ⟨_, ty, fr, r2, by rw [foldl_set_size]; exact hth, ?_⟩, ?_⟩
              · exact RelVs.mono hst.ext _ _ (setAt_rel hrs hcr (by omega))
              · simp only [RelV]; exact ⟨#[], rfl, by simp [RelVs]⟩
          | _ => simp [hl] at hu
      | pr id size i j =>
        simp only at hu
        cases hl : lk id σ.H with
        | none => simp [hl] at hu
        | some blk =>
          cases blk with
          | rows n size' cell =>
            simp only [hl] at hu
            cases h3 : Nat.beq size size' with
            | false => simp [h3] at hu
            | true =>
              cases h4 : Nat.ble (j + sz) size with
              | false => simp [h3, h4] at hu
              | true =>
                cases h5 : cvs u.cells with
                | none => simp [h3, h4, h5] at hu
                | some cl =>
                  simp only [h3, h4, h5] at hu
                  obtain rfl := Nat.eq_of_beq_eq_true h3
                  have hle := Nat.le_of_ble_eq_true h4
                  obtain ⟨hin, hu⟩ := hu
                  obtain ⟨hcvl, hcv⟩ := cvs_spec h5
                  refine ⟨_, _, hu, rfl, fun x a hh he => ?_⟩
                  have hp := hra x a (he.on ka)
                  simp only [RelV] at hp
                  obtain ⟨b, hloc, ep⟩ := hp
                  obtain ⟨hW, hI, hlt, hrel⟩ := hh.at_ hl rfl hloc
                  obtain ⟨arr, ty, fr, hheap, hth, hsz, hrs⟩ := hrel
                  have hcr := cells_rel (hru x a (he.on kv))
                  have hcl := RelVs_length hcr
                  have hbd : i * size + j + sz ≤ n * size := by
                    have : (i + 1) * size ≤ n * size := Nat.mul_le_mul_right _ (by omega)
                    rw [Nat.add_mul, Nat.one_mul] at this
                    omega
                  obtain ⟨w', r1, r2, r3, r4, r5, r6, r7⟩ := storeCells_run (P := P) (b := b) (off := i * size + j) (a.eval ov).cells.toList 0 arr x.w hheap hth (by omega) (ones_rel h2 hcr)
                  have hst : Step W x { w := w', I := x.I, loc := x.loc } := Step.set_ hW hI hheap r2 (by rw [foldl_set_size]) r3 r4 r5 r6 r7
                  refine ⟨{ w := w', I := x.I, loc := x.loc }, undef, .inr ⟨hrun x a b _ w' he ep r1, rfl⟩, hst, HOk.set_ hh hl rfl hloc hst r3 r4 ⟨_, ty, fr, r2, by rw [foldl_set_size]; exact hth, by rw [foldl_set_size]; exact hsz, fun i' j' hi' hj' => ?_⟩, ?_⟩
                  · rw [foldl_set_get _ _ _ _ _ (by omega)]
                    simp only [Nat.add_zero]
                    have hmono : ∀ {c v}, RelC x.w x.I c v → RelC w' x.I c v := fun h => RelC.mono hst.ext.sub hst.ext.kept _ _ h
                    by_cases hii : i' = i
                    · subst hii
                      have hb : Nat.beq i' i' = true := by simp
                      simp only [updCell, hb, updRow_spec]
                      by_cases hc : j ≤ j' ∧ j' < j + cl.length
                      · rw [if_pos hc, if_pos (by omega)]
                        obtain ⟨v, hv, hrv⟩ := RelVs_get hcr (j' - j) (u.cells[j' - j]'(by omega)) (List.getElem?_eq_getElem _)
                        obtain ⟨c, hc1, hc2⟩ := hcv (j' - j) (u.cells[j' - j]'(by omega)) (List.getElem?_eq_getElem _)
                        refine ⟨v, by rw [show i' * size + j' - (i' * size + j) = j' - j by omega]; exact hv, ?_⟩
                        rw [List.getD_eq_getElem?_getD, hc1]
                        exact hmono (AV.cv_rel hc2 hrv)
                      · rw [if_neg hc, if_neg (by omega)]
                        obtain ⟨v, hv, hrv⟩ := hrs i' j' hi' hj'
                        exact ⟨v, hv, hmono hrv⟩
                    · have hb : Nat.beq i' i = false := by
                        cases e : Nat.beq i' i with
                        | false => rfl
                        | true => exact absurd (Nat.eq_of_beq_eq_true e) hii
                      simp only [updCell, hb]
                      have hne : ¬ (i * size + j ≤ i' * size + j' ∧ i' * size + j' < i * size + j + (a.eval ov).cells.toList.length) := by
                        rintro ⟨c1, c2⟩
                        rcases Nat.lt_or_gt_of_ne hii with h' | h'
                        · have : (i' + 1) * size ≤ i * size := Nat.mul_le_mul_right _ (by omega)
                          rw [Nat.add_mul, Nat.one_mul] at this
                          omega
                        · have : (i + 1) * size ≤ i' * size := Nat.mul_le_mul_right _ (by omega)
                          rw [Nat.add_mul, Nat.one_mul] at this
                          omega
                      rw [if_neg hne]
                      obtain ⟨v, hv, hrv⟩ := hrs i' j' hi' hj'
                      exact ⟨v, hv, hmono hrv⟩
                  · simp only [RelV]; exact ⟨#[], rfl, by simp [RelVs]⟩
          | _ => simp [hl] at hu
      | _ => exact hu.elim

end
end Go.Hb

namespace Go.Hb
open Go.RowKit
variable [Amb]

section
variable {P : Program} {W : Nat → Prop} {σ : St} {K : AV → St → Prop} {o : Oper}

theorem hop_mks {t el : TypeId} {ol oc : Operand} {xl xc : X} {size bytes : Nat} {zs : List AV} {ti : TypeInfo} (ho : o.op = .makeSlice t ol oc) (ht : tSlice P t = some el) (hi : P.info? el = some ti) (hs : ti.size = size) (hb : ti.bytes = bytes)
    (hb1 : 1 ≤ bytes) (hz : zCells P el = some zs) (hzl : zs.length = size) (hl : convX ol = some xl) (hc : convX oc = some xc) (h : hop (.mks size bytes zs xl xc) σ K) : HSound1 P W o σ K := by
  obtain ⟨lv, hlv, hrl⟩ := gx_sound hl h
  obtain ⟨cv, hcv, hrc⟩ := gx_sound hc hlv
  cases lv with
  | i k y =>
    cases cv with
    | i k' z =>
      simp only at hcv
      cases hcz : cvs zs with
      | none => simp [hcz] at hcv
      | some zl =>
        simp only [hcz] at hcv
        obtain ⟨n, m, rfl, rfl, hnm, hmb, hK⟩ := hcv
        obtain ⟨zv, hz, hzr, _⟩ := zCells_spec hz
        obtain ⟨hcvl, hcvg⟩ := cvs_spec hcz
        have hm : m ≤ 140737488355328 := Nat.le_trans (Nat.le_mul_of_pos_right _ hb1) hmb
        have hz' : ti.zero = some zv := by simpa [tZero, hi] using hz
        refine ⟨_, _, hK, rfl, fun x a hh he => ?_⟩
        have e1 : a.eval ol = .int k n := by simpa [RelV] using hrl x a (he.on fun t ht => by simp [ho, Op.operands, convX_tmps hl t ht])
        have e2 : a.eval oc = .int k' m := by simpa [RelV] using hrc x a (he.on fun t ht => by simp [ho, Op.operands, convX_tmps hc t ht])
        have hbz : (ti.bytes : Int) * (m : Int) ≤ 281474976710656 := by
          have : ((ti.bytes * m : Nat) : Int) ≤ 281474976710656 := by rw [hb, Nat.mul_comm]; omega
          rwa [Int.natCast_mul] at this
        have hr := run_make (P := P) x.w t el ti zv (tSlice_spec ht) hi hz' k k' n m (by omega) (by omega) hbz (by omega)
        simp only [Int.toNat_natCast] at hr
        have hst := Step.new_ (x := x) hh (.cells (madeCells zv.cells (m * ti.size)) el (0, 0))
        have hzsz : zv.cells.size = size := by
          have := RelVs_length (hzr x)
          simp at this
          omega
        refine ⟨x.new σ.nxt (.cells (madeCells zv.cells (m * ti.size)) el (0, 0)), .slice (some ⟨x.w.heap.size, 0, none⟩) n m, .inl ?_, hst, HOk.new_ hh _ _ ?_, ?_⟩
        · simp [execOp, ho, e1, e2, hr, Cx.new]
        · refine ⟨_, el, (0, 0), heap_alloc_new' _ _, Thaw.zero _, by simp [size_madeCells, hs], fun i j hi' hj' => ?_⟩
          have hlt : i * size + j < m * size := by
            have : (i + 1) * size ≤ m * size := Nat.mul_le_mul_right _ (by omega)
            rw [Nat.add_mul, Nat.one_mul] at this
            omega
          have hmod : (i * size + j) % size = j := by
            rw [Nat.add_comm, Nat.add_mul_mod_self_right]
            exact Nat.mod_eq_of_lt hj'
          obtain ⟨u, hu, hru⟩ := RelVs_get (hzr x) j (zs[j]'(by omega)) (List.getElem?_eq_getElem _)
          obtain ⟨c, hc1, hc2⟩ := hcvg j (zs[j]'(by omega)) (List.getElem?_eq_getElem _)
          refine ⟨u, ?_, ?_⟩
          · have hu' : zv.cells[j]? = some u := by simpa using hu
            simp only [madeCells, hs]
            rw [Array.getElem?_map, Array.getElem?_range, if_pos hlt]
            simp [hzsz, hmod, getElem!_def, hu']
          · simp only [List.getD_eq_getElem?_getD, hc1]
            exact RelC.mono hst.ext.sub hst.ext.kept _ _ (AV.cv_rel hc2 hru)
        · simp only [RelV]
          exact .inr ⟨x.w.heap.size, m, 0, by simp [Cx.new], rfl, hnm, fun _ => by simp, _, el, (0, 0), heap_alloc_new' _ _, by simp [size_madeCells, hs]⟩
    | _ => exact hcv.elim
  | _ => exact hcv.elim

/-- What a source of append tells: so many elements, these cells. -/
def SrcOk (P : Program) (w : World) (size : Nat) (sv : Value) (m : Nat) (nl : List Value) : Prop :=
  (∀ w', (Builtin.lenOf sv).run P w' = .ok m w') ∧ (∀ w' : World, w'.heap = w.heap → ∀ c, c ≤ m → (Builtin.firstCells size c sv).run P w' = .ok (nl.take (c * size)).toArray w') ∧ nl.length = m * size ∧ ∀ v ∈ nl, v.oneCell' = true
theorem SrcOk.all {w : World} {size : Nat} {sv : Value} {m : Nat} {nl : List Value} (h : SrcOk P w size sv m nl) : ∀ w' : World, w'.heap = w.heap → (Builtin.firstCells size m sv).run P w' = .ok nl.toArray w' := fun w' hw => by
  have := h.2.1 w' hw m (Nat.le_refl _)
  rwa [List.take_of_length_le (by rw [h.2.2.1]; exact Nat.le_refl _)] at this

theorem loadCells_blk {w : World} {b off n : Nat} {arr : Array Value} {ty : TypeId} {fr : Nat × Nat} (h : w.heap[b]? = some (Obj.cells arr ty fr)) (hle : off + n ≤ arr.size) :
    (loadCells ⟨b, off, none⟩ n).run P w = .ok (arr.toList.drop off |>.take n).toArray w := by
  have hl : ((arr.toList.drop off).take n).length = n := by simp; omega
  have := run_loadCells_list (P := P) w ⟨b, off, none⟩ ((arr.toList.drop off).take n) (fun j v hj => by
    rw [add_plain, cell_of_blk h]
    have hjn : j < n := by
      have := (List.getElem?_eq_some_iff.1 hj).1
      omega
    rw [List.getElem?_take, if_pos hjn, List.getElem?_drop] at hj
    simpa using hj)
  rwa [hl] at this

theorem news_sound {H : List (Nat × Blk)} {nxt size : Nat} {xv : AV} {K' : Nat → (Nat → Nat → CV) → Prop} (h : news H size xv K') :
    ∃ m nw, K' m nw ∧ ∀ (x : Cx) (sv : Value), HOk W x H nxt → RelV x xv sv → ∃ nl, SrcOk P x.w size sv m nl ∧ ∀ i j, i < m → j < size → ∃ u, nl[i * size + j]? = some u ∧ RelC x.w x.I (nw i j) u := by
  have lt : ∀ {i j m : Nat}, i < m → j < size → i * size + j < m * size := fun {i j m} hi hj => by
    have : (i + 1) * size ≤ m * size := Nat.mul_le_mul_right _ (by omega)
    rw [Nat.add_mul, Nat.one_mul] at this
    omega
  cases xv with
  | nils =>
    refine ⟨_, _, h, fun x sv _ hr => ⟨[], ⟨fun w' => ?_, fun w' _ c hc => ?_, by simp, by simp⟩, fun i j hi => absurd hi (Nat.not_lt_zero _)⟩⟩
    · simp only [RelV] at hr; subst hr; simp [Builtin.lenOf]
    · simp only [RelV] at hr; subst hr; simp [Builtin.firstCells]
  | s s =>
    simp only [news] at h
    cases hs : Nat.beq size 1 with
    | false => simp [hs] at h
    | true =>
      obtain rfl := Nat.eq_of_beq_eq_true hs
      simp only [hs] at h
      refine ⟨_, _, h, fun x sv _ hr => ⟨s.data.toList.map fun b => .int .u8 b.toNat, ⟨fun w' => ?_, fun w' _ c hc => ?_, by simp, by simp [Value.oneCell']⟩, fun i j hi hj => ?_⟩⟩
      · simp only [RelV] at hr; subst hr; simp [Builtin.lenOf]
      · simp only [RelV] at hr; subst hr
        simp only [Builtin.firstCells, Sem.run_pure]
        congr 1
        apply Array.ext'
        simp [ByteArray.data_extract, List.map_take]
      · obtain rfl : j = 0 := by omega
        have hi' : i < s.data.size := hi
        refine ⟨.int .u8 ((s.data[i]?.getD 0).toNat : Int), ?_, rfl⟩
        simp [hi', Array.getElem?_eq_getElem hi']
  | fs m size' cell =>
    simp only [news] at h
    cases hs : Nat.beq size size' with
    | false => simp [hs] at h
    | true =>
      obtain rfl := Nat.eq_of_beq_eq_true hs
      simp only [hs] at h
      refine ⟨_, _, h, fun x sv _ hr => ?_⟩
      simp only [RelV] at hr
      obtain ⟨A, cap, rfl, hcap, hc⟩ := hr
      by_cases hm : m = 0
      · subst hm
        refine ⟨[], ⟨fun w' => by simp [Builtin.lenOf], fun w' _ c hc => ?_, by simp, by simp⟩, fun i j hi => absurd hi (Nat.not_lt_zero _)⟩
        obtain rfl : c = 0 := by omega
        cases A with
        | none => simp [Builtin.firstCells]
        | some A => simp [Builtin.firstCells, loadCells, loadCellsFrom]
      · obtain ⟨ad, rfl, hI, hc⟩ := hc hm
        have hf : ∀ q : Nat, ∃ u, q < m * size → x.w.cell? (ad.add q) = some u ∧ ∀ i j, i < m → j < size → q = i * size + j → RelC x.w x.I (cell i j) u := by
          intro q
          by_cases hq : q < m * size
          · have hs0 : 0 < size := by
              rcases Nat.eq_zero_or_pos size with h0 | h0
              · rw [h0] at hq; simp at hq
              · exact h0
            have hi : q / size < m := Nat.div_lt_of_lt_mul (by rw [Nat.mul_comm]; exact hq)
            have hj : q % size < size := Nat.mod_lt _ hs0
            have hqe : q / size * size + q % size = q := Nat.div_add_mod' q size
            obtain ⟨u, hu, hr⟩ := hc _ _ hi hj
            rw [hqe] at hu
            refine ⟨u, fun _ => ⟨hu, fun i j hi' hj' e => ?_⟩⟩
            have e1 : q / size = i := by rw [e, Nat.add_comm, Nat.add_mul_div_right _ _ hs0, Nat.div_eq_of_lt hj']; omega
            have e2 : q % size = j := by rw [e, Nat.add_comm, Nat.add_mul_mod_self_right, Nat.mod_eq_of_lt hj']
            rw [← e1, ← e2]
            exact hr
          · exact ⟨undef, fun h => absurd h hq⟩
        obtain ⟨f, hf⟩ := Classical.axiomOfChoice hf
        refine ⟨(List.range (m * size)).map f, ⟨fun w' => by simp [Builtin.lenOf], fun w' hw' c hcm => ?_, by simp, fun v hv => ?_⟩, fun i j hi hj => ?_⟩
        · simp only [Builtin.firstCells]
          have hcs : c * size ≤ m * size := Nat.mul_le_mul_right _ hcm
          rw [← List.map_take, List.take_range, Nat.min_eq_left hcs]
          exact run_loadCells w' ad (c * size) f fun j hj => by
            rw [World.cell?_of_block (w := x.w) (by rw [hw'])]
            exact (hf j (by omega)).1
        · simp only [List.mem_map, List.mem_range] at hv
          obtain ⟨q, hq, rfl⟩ := hv
          have hs0 : 0 < size := by
            rcases Nat.eq_zero_or_pos size with h0 | h0
            · rw [h0] at hq; simp at hq
            · exact h0
          exact ((hf q hq).2 (q / size) (q % size) (Nat.div_lt_of_lt_mul (by rw [Nat.mul_comm]; exact hq)) (Nat.mod_lt _ hs0) (Nat.div_add_mod' q size).symm).one
        · exact ⟨f (i * size + j), by simp [lt hi hj], (hf _ (lt hi hj)).2 i j hi hj rfl⟩
  | sl id size' start m =>
    simp only [news] at h
    cases hs : Nat.beq size size' with
    | false => simp [hs] at h
    | true =>
      obtain rfl := Nat.eq_of_beq_eq_true hs
      simp only [hs] at h
      cases hl : lk id H with
      | none => simp [hl] at h
      | some blk =>
        cases blk with
        | rows n size'' cell =>
          simp only [hl] at h
          cases hs2 : Nat.beq size size'' with
          | false => simp [hs2] at h
          | true =>
            obtain rfl := Nat.eq_of_beq_eq_true hs2
            simp only [hs2] at h
            obtain ⟨hle, hK⟩ := h
            refine ⟨_, _, hK, fun x sv hh hr => ?_⟩
            simp only [RelV] at hr
            rcases hr with ⟨rfl, rfl⟩ | ⟨b, cap, off, hloc, rfl, hcap, hoff, cs, ty, fr, hheap, hsz⟩
            · exact ⟨[], ⟨fun w' => by simp [Builtin.lenOf], fun w' _ c hc => by simp [Builtin.firstCells], by simp, by simp⟩, fun i j hi => absurd hi (Nat.not_lt_zero _)⟩
            · obtain ⟨_, _, _, hrel⟩ := hh.at_ hl rfl hloc
              obtain ⟨arr, ty', fr', hheap', hth, hns, hrs⟩ := hrel
              rw [hheap] at hheap'
              cases hheap'
              by_cases hm : m = 0
              · subst hm
                exact ⟨[], ⟨fun w' => by simp [Builtin.lenOf], fun w' _ c hc => by (obtain rfl : c = 0 := by omega); simp [Builtin.firstCells, loadCells, loadCellsFrom], by simp, by simp⟩, fun i j hi => absurd hi (Nat.not_lt_zero _)⟩
              · have ho := hoff (by omega)
                subst ho
                have hfit : start * size + m * size ≤ cs.size := by
                  have : (start + m) * size ≤ n * size := Nat.mul_le_mul_right _ hle
                  rw [Nat.add_mul] at this
                  omega
                have hget : ∀ i j, i < m → j < size → ∃ u, ((cs.toList.drop (start * size)).take (m * size))[i * size + j]? = some u ∧ RelC x.w x.I (cell (start + i) j) u := by
                  intro i j hi hj
                  obtain ⟨u, hu, hr⟩ := hrs (start + i) j (by omega) hj
                  refine ⟨u, ?_, hr⟩
                  rw [List.getElem?_take, if_pos (lt hi hj), List.getElem?_drop]
                  rw [Nat.add_mul, Nat.add_assoc] at hu
                  simpa using hu
                refine ⟨(cs.toList.drop (start * size)).take (m * size), ⟨fun w' => by simp [Builtin.lenOf], fun w' hw' c hcm => ?_, by simp; omega, fun v hv => ?_⟩, hget⟩
                · simp only [Builtin.firstCells]
                  have hcs : c * size ≤ m * size := Nat.mul_le_mul_right _ hcm
                  rw [List.take_take, Nat.min_eq_left hcs]
                  exact loadCells_blk (by rw [hw']; exact hheap) (by omega)
                · obtain ⟨q, hq⟩ := List.getElem?_of_mem hv
                  have hql : q < m * size := by
                    have := (List.getElem?_eq_some_iff.1 hq).1
                    simp at this
                    omega
                  have hs0 : 0 < size := by
                    rcases Nat.eq_zero_or_pos size with h0 | h0
                    · rw [h0] at hql; simp at hql
                    · exact h0
                  obtain ⟨u, hu, hr⟩ := hget (q / size) (q % size) (Nat.div_lt_of_lt_mul (by rw [Nat.mul_comm]; exact hql)) (Nat.mod_lt _ hs0)
                  rw [Nat.div_add_mod', hq] at hu
                  cases hu
                  exact hr.one
        | _ => simp [hl] at h
  | sk id size' start m cap0 =>
    simp only [news] at h
    cases hs : Nat.beq size size' with
    | false => simp [hs] at h
    | true =>
      obtain rfl := Nat.eq_of_beq_eq_true hs
      simp only [hs] at h
      cases hl : lk id H with
      | none => simp [hl] at h
      | some blk =>
        cases blk with
        | rows n size'' cell =>
          simp only [hl] at h
          cases hs2 : Nat.beq size size'' with
          | false => simp [hs2] at h
          | true =>
            obtain rfl := Nat.eq_of_beq_eq_true hs2
            simp only [hs2] at h
            obtain ⟨hle, hK⟩ := h
            refine ⟨_, _, hK, fun x sv hh hr => ?_⟩
            simp only [RelV] at hr
            obtain ⟨b, off, hloc, rfl, hcap, hoff, cs, ty, fr, hheap, hsz⟩ := hr
            · obtain ⟨_, _, _, hrel⟩ := hh.at_ hl rfl hloc
              obtain ⟨arr, ty', fr', hheap', hth, hns, hrs⟩ := hrel
              rw [hheap] at hheap'
              cases hheap'
              by_cases hm : m = 0
              · subst hm
                exact ⟨[], ⟨fun w' => by simp [Builtin.lenOf], fun w' _ c hc => by (obtain rfl : c = 0 := by omega); simp [Builtin.firstCells, loadCells, loadCellsFrom], by simp, by simp⟩, fun i j hi => absurd hi (Nat.not_lt_zero _)⟩
              · have ho := hoff (by omega)
                subst ho
                have hfit : start * size + m * size ≤ cs.size := by
                  have : (start + m) * size ≤ n * size := Nat.mul_le_mul_right _ hle
                  rw [Nat.add_mul] at this
                  omega
                have hget : ∀ i j, i < m → j < size → ∃ u, ((cs.toList.drop (start * size)).take (m * size))[i * size + j]? = some u ∧ RelC x.w x.I (cell (start + i) j) u := by
                  intro i j hi hj
                  obtain ⟨u, hu, hr⟩ := hrs (start + i) j (by omega) hj
                  refine ⟨u, ?_, hr⟩
                  rw [List.getElem?_take, if_pos (lt hi hj), List.getElem?_drop]
                  rw [Nat.add_mul, Nat.add_assoc] at hu
                  simpa using hu
                refine ⟨(cs.toList.drop (start * size)).take (m * size), ⟨fun w' => by simp [Builtin.lenOf], fun w' hw' c hcm => ?_, by simp; omega, fun v hv => ?_⟩, hget⟩
                · simp only [Builtin.firstCells]
                  have hcs : c * size ≤ m * size := Nat.mul_le_mul_right _ hcm
                  rw [List.take_take, Nat.min_eq_left hcs]
                  exact loadCells_blk (by rw [hw']; exact hheap) (by omega)
                · obtain ⟨q, hq⟩ := List.getElem?_of_mem hv
                  have hql : q < m * size := by
                    have := (List.getElem?_eq_some_iff.1 hq).1
                    simp at this
                    omega
                  have hs0 : 0 < size := by
                    rcases Nat.eq_zero_or_pos size with h0 | h0
                    · rw [h0] at hql; simp at hql
                    · exact h0
                  obtain ⟨u, hu, hr⟩ := hget (q / size) (q % size) (Nat.div_lt_of_lt_mul (by rw [Nat.mul_comm]; exact hql)) (Nat.mod_lt _ hs0)
                  rw [Nat.div_add_mod', hq] at hu
                  cases hu
                  exact hr.one
        | _ => simp [hl] at h
  | sa id size' off m =>
    simp only [news] at h
    cases hs : Nat.beq size size' with
    | false => simp [hs] at h
    | true =>
      obtain rfl := Nat.eq_of_beq_eq_true hs
      simp only [hs] at h
      cases hl : lk id H with
      | none => simp [hl] at h
      | some blk =>
        cases blk with
        | lit cs =>
          simp only [hl] at h
          cases ht : takeAt cs off (m * size) with
          | none => simp [ht] at h
          | some l =>
            cases hc : cvs l with
            | none => simp [ht, hc] at h
            | some cl =>
              simp only [ht, hc] at h
              obtain ⟨htl, htg⟩ := takeAt_spec ht
              obtain ⟨hcl, hcg⟩ := cvs_spec hc
              refine ⟨_, _, h, fun x sv hh hr => ?_⟩
              simp only [RelV] at hr
              obtain ⟨b, cap, o', hloc, rfl, hcap, hoff, cs0, ty, fr, hheap, hsz⟩ := hr
              obtain ⟨_, _, _, hrel⟩ := hh.at_ hl rfl hloc
              obtain ⟨arr, ty', fr', hheap', hth, hrs⟩ := hrel
              rw [hheap] at hheap'
              cases hheap'
              by_cases hm : m = 0
              · subst hm
                exact ⟨[], ⟨fun w' => by simp [Builtin.lenOf], fun w' _ c hc => by (obtain rfl : c = 0 := by omega); simp [Builtin.firstCells, loadCells, loadCellsFrom], by simp, by simp⟩, fun i j hi => absurd hi (Nat.not_lt_zero _)⟩
              · have ho := hoff (by omega)
                subst ho
                have hfit : o' + m * size ≤ cs0.size := by
                  have : m * size ≤ cap * size := Nat.mul_le_mul_right _ hcap
                  omega
                have hget : ∀ q, q < m * size → ∃ u, ((cs0.toList.drop o').take (m * size))[q]? = some u ∧ ∃ c, cl[q]? = some c ∧ RelC x.w x.I c u := by
                  intro q hq
                  obtain ⟨c, hc1, hc2⟩ := hcg q (l[q]'(by omega)) (List.getElem?_eq_getElem _)
                  obtain ⟨u, hu, hr⟩ := RelVs_get hrs _ _ (htg q (l[q]'(by omega)) (List.getElem?_eq_getElem _))
                  exact ⟨u, by rw [List.getElem?_take, if_pos hq, List.getElem?_drop]; exact hu, c, hc1, AV.cv_rel hc2 hr⟩
                refine ⟨(cs0.toList.drop o').take (m * size), ⟨fun w' => by simp [Builtin.lenOf], fun w' hw' c hcm => ?_, by simp; omega, fun v hv => ?_⟩, fun i j hi hj => ?_⟩
                · simp only [Builtin.firstCells]
                  have hcs : c * size ≤ m * size := Nat.mul_le_mul_right _ hcm
                  rw [List.take_take, Nat.min_eq_left hcs]
                  exact loadCells_blk (by rw [hw']; exact hheap) (by omega)
                · obtain ⟨q, hq⟩ := List.getElem?_of_mem hv
                  have hql : q < m * size := by
                    have := (List.getElem?_eq_some_iff.1 hq).1
                    simp at this
                    omega
                  obtain ⟨u, hu, c, _, hr⟩ := hget q hql
                  rw [hq] at hu
                  cases hu
                  exact hr.one
                · obtain ⟨u, hu, c, hc, hr⟩ := hget _ (lt hi hj)
                  refine ⟨u, hu, ?_⟩
                  simp only [listCell, List.getD_eq_getElem?_getD, hc]
                  exact hr
        | _ => simp [hl] at h
  | _ => exact h.elim

/-- What has been appended to, as it stands: n elements, these cells; room for cap. -/
theorem olds_sound {H : List (Nat × Blk)} {nxt size : Nat} {sv : AV} {K' : Option Nat → Nat → (Nat → Nat → CV) → Prop} (hs0 : 0 < size) (h : olds H size sv K') :
    ∃ id n cell, K' id n cell ∧ ((id = none ∧ n = 0 ∧ sv = .nils) ∨ ∃ i k, id = some i ∧ lk i H = some k ∧ k.live = true) ∧ ∀ (x : Cx) (v : Value), HOk W x H nxt → RelV x sv v →
      (v = .slice none 0 0 ∧ n = 0) ∨ ∃ i b cap arr ty fr, id = some i ∧ x.loc i = some b ∧ (∃ o, v = .slice (some ⟨b, o, none⟩) n cap ∧ (cap ≠ 0 → o = 0)) ∧ n ≤ cap ∧ W b ∧ ¬ x.I b ∧ b < x.w.heap.size ∧ x.w.heap[b]? = some (Obj.cells arr ty fr) ∧ Thaw fr arr.size ∧
        cap * size ≤ arr.size ∧ ∀ i j, i < n → j < size → ∃ u, arr[i * size + j]? = some u ∧ RelC x.w x.I (cell i j) u := by
  have lt : ∀ {i j m : Nat}, i < m → j < size → i * size + j < m * size := fun {i j m} hi hj => by
    have : (i + 1) * size ≤ m * size := Nat.mul_le_mul_right _ (by omega)
    rw [Nat.add_mul, Nat.one_mul] at this
    omega
  cases sv with
  | nils =>
    refine ⟨_, _, _, h, .inl ⟨rfl, rfl, rfl⟩, fun x v _ hr => .inl ⟨?_, rfl⟩⟩
    simpa [RelV] using hr
  | sl id size' start n =>
    simp only [olds] at h
    cases h1 : Nat.beq size size' with
    | false => simp [h1] at h
    | true =>
      cases h2 : Nat.beq start 0 with
      | false => simp [h1, h2] at h
      | true =>
        obtain rfl := Nat.eq_of_beq_eq_true h1
        obtain rfl := Nat.eq_of_beq_eq_true h2
        simp only [h1, h2] at h
        cases hl : lk id H with
        | none => simp [hl] at h
        | some blk =>
          cases blk with
          | rows n' size'' cell =>
            simp only [hl] at h
            cases h3 : Nat.beq size size'' with
            | false => simp [h3] at h
            | true =>
              obtain rfl := Nat.eq_of_beq_eq_true h3
              simp only [h3] at h
              obtain ⟨hle, hK⟩ := h
              refine ⟨_, _, _, hK, .inr ⟨id, _, rfl, hl, rfl⟩, fun x v hh hr => ?_⟩
              simp only [RelV] at hr
              rcases hr with ⟨rfl, rfl⟩ | ⟨b, cap, off, hloc, rfl, hcap, hoff, cs, ty, fr, hheap, hsz⟩
              · exact .inl ⟨rfl, rfl⟩
              · obtain ⟨hW, hI, hlt, hrel⟩ := hh.at_ hl rfl hloc
                obtain ⟨arr, ty', fr', hheap', hth, hns, hrs⟩ := hrel
                rw [hheap] at hheap'
                cases hheap'
                exact .inr ⟨id, b, cap, cs, ty, fr, rfl, hloc, ⟨off, rfl, fun hc => by simpa using hoff hc⟩, hcap, hW, hI, hlt, hheap, hth, by simpa using hsz, fun i j hi hj => hrs i j (by omega) hj⟩
          | _ => simp [hl] at h
  | sa id size' off n =>
    simp only [olds] at h
    cases h1 : Nat.beq size size' with
    | false => simp [h1] at h
    | true =>
      cases h2 : Nat.beq off 0 with
      | false => simp [h1, h2] at h
      | true =>
        obtain rfl := Nat.eq_of_beq_eq_true h1
        obtain rfl := Nat.eq_of_beq_eq_true h2
        simp only [h1, h2] at h
        cases hl : lk id H with
        | none => simp [hl] at h
        | some blk =>
          cases blk with
          | lit cs =>
            simp only [hl] at h
            cases ht : takeAt cs 0 (n * size) with
            | none => simp [ht] at h
            | some l =>
              cases hc : cvs l with
              | none => simp [ht, hc] at h
              | some cl =>
                simp only [ht, hc] at h
                obtain ⟨htl, htg⟩ := takeAt_spec ht
                obtain ⟨hcl, hcg⟩ := cvs_spec hc
                refine ⟨_, _, _, h, .inr ⟨id, _, rfl, hl, rfl⟩, fun x v hh hr => ?_⟩
                simp only [RelV] at hr
                obtain ⟨b, cap, off, hloc, rfl, hcap, hoff, cs0, ty, fr, hheap, hsz⟩ := hr
                obtain ⟨hW, hI, hlt, hrel⟩ := hh.at_ hl rfl hloc
                obtain ⟨arr, ty', fr', hheap', hth, hrs⟩ := hrel
                rw [hheap] at hheap'
                cases hheap'
                refine .inr ⟨id, b, cap, cs0, ty, fr, rfl, hloc, ⟨off, rfl, fun hc => by simpa using hoff hc⟩, hcap, hW, hI, hlt, hheap, hth.le (by omega), by simpa using hsz, fun i j hi hj => ?_⟩
                have hq := lt hi hj
                obtain ⟨c, hc1, hc2⟩ := hcg (i * size + j) (l[i * size + j]'(by omega)) (List.getElem?_eq_getElem _)
                obtain ⟨u, hu, hr⟩ := RelVs_get hrs _ _ (htg (i * size + j) (l[i * size + j]'(by omega)) (List.getElem?_eq_getElem _))
                refine ⟨u, by simpa using hu, ?_⟩
                simp only [listCell, List.getD_eq_getElem?_getD, hc1]
                exact AV.cv_rel hc2 hr
          | _ => simp [hl] at h
  | _ => exact h.elim

theorem Step.drew {x : Cx} : Step W x { w := x.w.drew, I := x.I, loc := x.loc } :=
  ⟨⟨fun _ _ h => h, fun _ h => h, fun _ _ => rfl, Nat.le_refl _, fun _ cs _ fr h => ⟨cs, fr, h, rfl⟩⟩, rfl, rfl, rfl, fun _ _ => rfl, fun _ h => .inl h⟩
theorem HOk.drew {x : Cx} {H : List (Nat × Blk)} {nxt : Nat} (h : HOk W x H nxt) : HOk W { w := x.w.drew, I := x.I, loc := x.loc } H nxt :=
  ⟨h.keys, fun id k hk hl => by
    rcases h.blk id k hk hl with f | ⟨b, e1, e2, e3, e4, e5⟩
    · exact .inl f
    · exact .inr ⟨b, e1, e2, e3, e4, e5.mono (Step.drew (W := W)).ext rfl⟩, h.inj, h.fresh, h.bound.ext (Step.drew (W := W)).ext h.bound.lt, h.room⟩

/-- An id is given up. -/
theorem HOk.kill {x : Cx} {H : List (Nat × Blk)} {nxt : Nat} (h : HOk W x H nxt) (id : Nat) (hid : id < nxt) : HOk W x ((id, .dead) :: H) nxt := by
  refine ⟨fun i q hq => ?_, fun i q hq hl => ?_, fun i i' q q' b h1 h2 l1 l2 e1 e2 => ?_, h.fresh, h.bound, h.room⟩
  · rw [lk_cons] at hq
    by_cases hc : i = id
    · omega
    · rw [if_neg hc] at hq; exact h.keys i q hq
  · rw [lk_cons] at hq
    by_cases hc : i = id
    · rw [if_pos hc] at hq; cases hq; cases hl
    · rw [if_neg hc] at hq; exact h.blk i q hq hl
  · rw [lk_cons] at h1 h2
    by_cases c1 : i = id
    · rw [if_pos c1] at h1; cases h1; cases l1
    · by_cases c2 : i' = id
      · rw [if_pos c2] at h2; cases h2; cases l2
      · rw [if_neg c1] at h1
        rw [if_neg c2] at h2
        exact h.inj i i' q q' b h1 h2 l1 l2 e1 e2
theorem HOk.killed {x : Cx} {H : List (Nat × Blk)} {nxt : Nat} (h : HOk W x H nxt) (id : Option Nat) (hid : ∀ i, id = some i → i < nxt) : HOk W x (killed id H) nxt := by
  cases id with
  | none => exact h
  | some i => exact h.kill i (hid i rfl)

/-- An id more for a block that no other live id is. -/
theorem HOk.name {x : Cx} {H : List (Nat × Blk)} {nxt b : Nat} {k : Blk} (h : HOk W x H nxt) (hW : W b) (hI : ¬ x.I b) (hb : b < x.w.heap.size) (hrel : BlkRel x k b)
    (hno : ∀ id q, lk id H = some q → q.live = true → x.loc id ≠ some b) :
    Step W x { w := x.w, I := x.I, loc := fun i => if i = nxt then some b else x.loc i } ∧ HOk W { w := x.w, I := x.I, loc := fun i => if i = nxt then some b else x.loc i } ((nxt, k) :: H) (nxt + 1) := by
  have hst : Step W x { w := x.w, I := x.I, loc := fun i => if i = nxt then some b else x.loc i } := by
    refine ⟨⟨fun id c e => ?_, fun _ h => h, fun _ _ => rfl, Nat.le_refl _, fun _ cs _ fr h => ⟨cs, fr, h, rfl⟩⟩, rfl, rfl, rfl, fun _ _ => rfl, fun _ h => .inl h⟩
    simp only
    by_cases hc : id = nxt
    · subst hc
      rw [h.fresh id (Nat.le_refl _)] at e
      cases e
    · rw [if_neg hc]; exact e
  refine ⟨hst, fun id q hq => ?_, fun id q hq hl => ?_, fun i i' q q' c h1 h2 l1 l2 e1 e2 => ?_, fun id hid => ?_, h.bound, h.room⟩
  · rw [lk_cons] at hq
    by_cases hc : id = nxt
    · omega
    · rw [if_neg hc] at hq
      have := h.keys id q hq
      omega
  · rw [lk_cons] at hq
    by_cases hc : id = nxt
    · rw [if_pos hc] at hq
      cases hq
      exact .inr ⟨b, by simp [hc], hW, hI, hb, hrel.mono hst.ext rfl⟩
    · rw [if_neg hc] at hq
      rcases h.blk id q hq hl with ⟨f1, f2⟩ | ⟨c, e1, e2, e3, e4, e5⟩
      · exact .inl ⟨f1, by simp [hc, f2]⟩
      · exact .inr ⟨c, by simp [hc, e1], e2, e3, e4, e5.mono hst.ext rfl⟩
  · rw [lk_cons] at h1 h2
    simp only at e1 e2
    by_cases c1 : i = nxt <;> by_cases c2 : i' = nxt
    · rw [c1, c2]
    · rw [if_neg c2] at h2 e2
      rw [if_pos c1] at e1
      cases e1
      exact absurd e2 (hno _ _ h2 l2)
    · rw [if_neg c1] at h1 e1
      rw [if_pos c2] at e2
      cases e2
      exact absurd e1 (hno _ _ h1 l1)
    · rw [if_neg c1] at h1 e1
      rw [if_neg c2] at h2 e2
      exact h.inj i i' q q' c h1 h2 l1 l2 e1 e2
  · simp only
    rw [if_neg (by omega)]
    exact h.fresh id (by omega)

/-- A row of nothing, without a block. -/
theorem HOk.void_ {x : Cx} {H : List (Nat × Blk)} {nxt : Nat} {k : Blk} (h : HOk W x H nxt) (hk : k.void) : HOk W x ((nxt, k) :: H) (nxt + 1) := by
  have hn := h.fresh nxt (Nat.le_refl _)
  refine ⟨fun id q hq => ?_, fun id q hq hl => ?_, fun i i' q q' c h1 h2 l1 l2 e1 e2 => ?_, fun id hid => h.fresh id (by omega), h.bound, h.room⟩
  · rw [lk_cons] at hq
    by_cases hc : id = nxt
    · omega
    · rw [if_neg hc] at hq
      have := h.keys id q hq
      omega
  · rw [lk_cons] at hq
    by_cases hc : id = nxt
    · rw [if_pos hc] at hq
      cases hq
      exact .inl ⟨hk, by rw [hc]; exact hn⟩
    · rw [if_neg hc] at hq
      exact h.blk id q hq hl
  · rw [lk_cons] at h1 h2
    by_cases c1 : i = nxt
    · rw [c1, hn] at e1; cases e1
    · by_cases c2 : i' = nxt
      · rw [c2, hn] at e2; cases e2
      · rw [if_neg c1] at h1
        rw [if_neg c2] at h2
        exact h.inj i i' q q' c h1 h2 l1 l2 e1 e2

/-- append's run where it must grow. -/
theorem append_grow {t t2 ty el : TypeId} {ti : TypeInfo} {z : Value} {size : Nat} (ht : P.underlying t = some (.slice el)) (ht2 : P.underlying t2 = some .string ∨ ∃ e2, P.underlying t2 = some (.slice e2)) (hi : P.info? el = some ti) (hz : ti.zero = some z) (hsz : ti.size = size)
    {base : Option Addr} {n cap m : Nat} {sv : Value} {ol nl : List Value} (w : World) (hold : ∀ w' : World, w'.heap = w.heap → (Builtin.firstCells size n (.slice base n cap)).run P w' = .ok ol.toArray w') (hsrc : SrcOk P w size sv m nl)
    (hg : cap < n + m) (hb1 : 1 ≤ ti.bytes) (hbytes : (n + m) * ti.bytes ≤ 140737488355328) :
    (Builtin.append_ #[t, t2] ty #[.slice base n cap, sv]).run P w = .ok (.slice (some ⟨w.heap.size, 0, none⟩) (n + m) (grownCap w (n + m) cap el))
      (w.drew.alloc (.cells (ol.toArray ++ nl.toArray ++ Builtin.zeroCells z.cells (grownCap w (n + m) cap el - (n + m))) el)) := by
  subst hsz
  have h2 := hsrc.all
  obtain ⟨h1, _, _, _⟩ := hsrc
  have hle : n + m ≤ 140737488355328 := Nat.le_trans (Nat.le_mul_of_pos_right _ hb1) hbytes
  have hn : ¬ (n + m ≤ cap) := by omega
  have h63 : ¬ (((n + m : Nat) : Int) > IntKind.i64.max) := by
    have : IntKind.i64.max = 9223372036854775807 := by rfl
    rw [this]; omega
  have hfit := growslice_fits hg hbytes
  have h48 : ¬ (Builtin.nextslicecap (n + m) cap * ti.bytes > 2 ^ 48) := by
    have : (2 : Nat) ^ 48 = 281474976710656 := by decide
    rw [this]; omega
  have hb0 : ti.bytes ≠ 0 := by omega
  have e1 := hold w.drew rfl
  have e2 := h2 w.drew rfl
  have h63' : ¬ (9223372036854775807 < ((n : Int) + (m : Int))) := by omega
  have h48' : ¬ (281474976710656 < Builtin.nextslicecap (n + m) cap * ti.bytes) := by omega
  rcases ht2 with hd | ⟨e2', hd⟩
  all_goals
    simp [Builtin.append_, run_underlying ht, run_underlying hd, sizeOf, typeInfo, zeroValue, hi, hz, h1, hn, h63', h48', Question.forced, e1, e2, newRow, grownCap]
    congr 2
    apply Array.ext'
    simp [List.append_assoc]

/-- append's run where there is room. -/
theorem append_room {t t2 ty el : TypeId} {ti : TypeInfo} {size : Nat} (ht : P.underlying t = some (.slice el)) (ht2 : P.underlying t2 = some .string ∨ ∃ e2, P.underlying t2 = some (.slice e2)) (hi : P.info? el = some ti) (hsz : ti.size = size)
    {b o n cap m : Nat} {sv : Value} {nl : List Value} {w w' : World} (hsrc : SrcOk P w size sv m nl) (hg : n + m ≤ cap) (hst : (storeCells ⟨b, o + n * size, none⟩ nl).run P w = .ok () w') :
    (Builtin.append_ #[t, t2] ty #[.slice (some ⟨b, o, none⟩) n cap, sv]).run P w = .ok (.slice (some ⟨b, o, none⟩) (n + m) cap) w' := by
  subst hsz
  have h2 := hsrc.all
  obtain ⟨h1, _, _, _⟩ := hsrc
  have e2 := h2 w rfl
  rcases ht2 with hd | ⟨e2', hd⟩
  all_goals
    simp [Builtin.append_, run_underlying ht, run_underlying hd, sizeOf, typeInfo, hi, h1, hg, e2, add_plain, hst]

theorem append_none {t t2 ty el : TypeId} {ti : TypeInfo} {size : Nat} (ht : P.underlying t = some (.slice el)) (ht2 : P.underlying t2 = some .string ∨ ∃ e2, P.underlying t2 = some (.slice e2)) (hi : P.info? el = some ti) (hsz : ti.size = size)
    {sv : Value} {nl : List Value} {w : World} (hsrc : SrcOk P w size sv 0 nl) :
    (Builtin.append_ #[t, t2] ty #[.slice none 0 0, sv]).run P w = .ok (.slice none 0 0) w := by
  subst hsz
  have h2 := hsrc.all
  obtain ⟨h1, _, _, _⟩ := hsrc
  have e2 := h2 w rfl
  rcases ht2 with hd | ⟨e2', hd⟩
  all_goals
    simp [Builtin.append_, run_underlying ht, run_underlying hd, sizeOf, typeInfo, hi, h1, e2]

theorem appCell_old {n : Nat} {cell nw : Nat → Nat → CV} {i : Nat} (h : i < n) (j : Nat) : appCell n cell nw i j = cell i j := by
  have : Nat.blt i n = true := by simpa using h
  simp [appCell, this]
theorem appCell_new {n : Nat} {cell nw : Nat → Nat → CV} {i : Nat} (h : n ≤ i) (j : Nat) : appCell n cell nw i j = nw (i - n) j := by
  have : Nat.blt i n = false := by
    cases e : Nat.blt i n with
    | false => rfl
    | true =>
      have : i < n := by simpa using e
      omega
  simp [appCell, this]

end
end Go.Hb

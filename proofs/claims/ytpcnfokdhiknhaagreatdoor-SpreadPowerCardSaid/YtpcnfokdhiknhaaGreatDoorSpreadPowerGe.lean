/-
  Parts of the proof: no statement of the seat is proved here.
-/
import Derived.Test.YtpcnfokdhiknhaaGreatDoorSpreadPowerGc
import Derived.RangeFuncKeeps
import Derived.RangeFuncLeaves
import Derived.RangeFuncCalls
import Derived.TacticsIn
set_option linter.unusedSimpArgs false
set_option linter.unusedVariables false
set_option linter.unusedSectionVars false

namespace Go.Hb
open Go.RowKit
variable [Amb]

/-! ### Ranges over functions: what a call of yield does is told by an oracle -/

abbrev Ora := Value → List AV → List (Nat × Blk) → Nat → (AV → List (Nat × Blk) → Nat → Prop) → Prop
def noY : Ora := fun _ _ _ _ _ => False

def hcallY (P : Program) (Y : Ora) (f : X) (xs : List X) (σ : St) (K : AV → St → Prop) : Prop :=
  gx σ.env (fun fv => gxs σ.env xs fun as => match fv with
    | .fn (.func f) first caps => XCall P f (first ++ (as ++ caps)) σ.H σ.nxt fun r H' n' => K r { env := σ.env, H := H', nxt := n' }
    | .raw u => Y u as σ.H σ.nxt fun r H' n' => K r { env := σ.env, H := H', nxt := n' }
    | _ => False) f

def aopsY (P : Program) (Y : Ora) : List MI → St → (St → Prop) → Prop
  | [], σ, K => K σ
  | .l d sp g o :: r, σ, K => gd σ.env g (lop σ.env σ.H o fun v _ => spl sp v fun v' => aopsY P Y r (σ.put d v') K) (aopsY P Y r (σ.put d (.tup [])) K)
  | .h d g o :: r, σ, K => gd σ.env g (match o with
    | .call f xs => hcallY P Y f xs σ fun v σ' => aopsY P Y r (σ'.put d v) K
    | o => hop o σ fun v σ' => aopsY P Y r (σ'.put d v) K) (aopsY P Y r (σ.put d (.tup [])) K)

inductive YC where
  | skip
  | reg (ops : List MI)
  | seq (a b : YC)
  | cond (x : X) (a b : YC)
  | block (id : Nat) (c : YC)
  | loop (c : YC)
  | exit (id : Nat)
  | ret
  | rangeF (g : X) (ps : List Nat) (assign body : YC)

def zipE : List Nat → List AV → List (Nat × AV) → List (Nat × AV)
  | p :: ps, a :: as, env => zipE ps as ((p, a) :: env)
  | _, _, env => env

/-- A call of yield: the round runs, and its result is handed back. -/
def YRun (P : Program) (u : Value) (W : Nat → Prop) (x : Cx) (vals : Array Value) (K : AV → List (Nat × Blk) → Nat → Prop) : Prop :=
  ∃ l fn tmps assign body, u = .func (.yield l) #[] #[] ∧ (Instr.yield l vals).run P x.w = .ok (.round l fn tmps assign body) x.w ∧
    ∀ n, RoundIn Fence.wide n P l fn tmps assign body x.w fun e w' => ∃ v, e = .returned v ∧ ∃ y r H' n', y.w = w' ∧ K r H' n' ∧ Step W x y ∧ HOk W y H' n' ∧ RelV y r v

/-- What the oracle tells is so, from x0 on, within what may be written. -/
def YOk (P : Program) (Y : Ora) (W : Nat → Prop) (x0 : Cx) : Prop :=
  ∀ u as H nxt K x vals (W' : Nat → Prop), (∀ k, W' k → W k) → Step W x0 x → HOk W' x H nxt → RelVs x as vals.toList → Y u as H nxt K → YRun P u W' x vals K

/-- A call of a function that is handed such a value. -/
structure XCY (P : Program) (Y : Ora) (f : FuncId) (args : List AV) (H : List (Nat × Blk)) (nxt : Nat) (K : AV → List (Nat × Blk) → Nat → Prop) : Prop where
  run : ∀ vals w, (callFunc f vals).run P w = .ok (.enter f vals) w
  go : ∀ (W : Nat → Prop) (x : Cx) (vals : Array Value), HOk W x H nxt → RelVs x args vals.toList → YOk P Y W x →
    Calls P f vals x.w fun e w' => ∃ v, e = .returned v ∧ ∃ y r H' n', y.w = w' ∧ K r H' n' ∧ Step W x y ∧ HOk W y H' n' ∧ RelV y r v

theorem noY_ok (P : Program) (W : Nat → Prop) (x0 : Cx) : YOk P noY W x0 := fun _ _ _ _ _ _ _ _ _ _ _ _ h => h.elim
theorem XCY.call {P : Program} {f : FuncId} {args : List AV} {H : List (Nat × Blk)} {nxt : Nat} {K : AV → List (Nat × Blk) → Nat → Prop} (h : XCY P noY f args H nxt K) : XCall P f args H nxt K :=
  ⟨fun W x vals hh hr => .inl ⟨h.run vals x.w, h.go W x vals hh hr (noY_ok P W x)⟩⟩

def awpY (P : Program) : YC → Ora → St → (MX → St → Prop) → Prop
  | .skip, _, σ, K => K .normal σ
  | .reg ops, Y, σ, K => aopsY P Y ops σ fun σ' => K .normal σ'
  | .seq a b, Y, σ, K => awpY P a Y σ fun e σ' => match e with
    | .normal => awpY P b Y σ' K
    | e => K e σ'
  | .cond x a b, Y, σ, K => gx σ.env (fun v => match v with
    | .tt => awpY P a Y σ K
    | .ff => awpY P b Y σ K
    | .b y => brk y (awpY P a Y σ K) (awpY P b Y σ K)
    | _ => False) x
  | .block id c, Y, σ, K => awpY P c Y σ fun e σ' => match e with
    | .exit i => (match Nat.beq i id with
      | true => K .normal σ'
      | false => K (.exit i) σ')
    | e => K e σ'
  | .loop c, Y, σ, K => ∃ (I : St → Prop) (μ : St → Nat), (∃ σc, Le σ.nxt σ σc ∧ I σc) ∧ ∀ σ', I σ' → awpY P c Y σ' fun e σ'' => match e with
    | .normal => ∃ σc, Le σ.nxt σ'' σc ∧ I σc ∧ μ σc < μ σ'
    | e => K e σ''
  | .exit id, _, σ, K => K (.exit id) σ
  | .ret, _, σ, K => K .ret σ
  | .rangeF g ps assign body, _, σ, K => gx σ.env (fun fv => match fv with
    | .fn (.func f) [] caps => ∀ yv : Value, XCY P (fun u as H n K' => u = yv ∧ as.length = ps.length ∧ awpY P assign noY ⟨zipE ps as σ.env, H, n⟩ fun e σ1 => e = .normal ∧ awpY P body noY σ1 fun e σ2 => e = .normal ∧ K' .tt σ2.H σ2.nxt) f
        (.raw yv :: caps) σ.H σ.nxt fun _ H' n' => K .normal ⟨σ.env, H', n'⟩
    | _ => False) g

def convY (P : Program) (N : Nat) (inr : Bool) : Code → Option YC
  | .skip => some .skip
  | .region _ ops false => (convIs P N ops ops.toList).map .reg
  | .seq a b => match convY P N inr a, convY P N inr b with
    | some a, some b => some (.seq a b)
    | _, _ => none
  | .cond x a b => match convX x, convY P N inr a, convY P N inr b with
    | some x, some a, some b => some (.cond x a b)
    | _, _, _ => none
  | .block id c => (convY P N inr c).map (.block id)
  | .loop c => (convY P N inr c).map .loop
  | .exit id => some (.exit id)
  | .ret => some .ret
  | .refuse _ => some (.reg [.h none none (.call (.c .nils) [])])
  | .rangeFunc g ps a b => match inr, convX g, convY P N true a, convY P N true b, ps.toList.all fun p => Nat.blt p N with
    | false, some g, some a, some b, true => some (.rangeF g ps.toList a b)
    | _, _, _, _, _ => none
  | _ => none

section
variable {P : Program} {W : Nat → Prop} {x0 : Cx} {N : Nat}

/-- The marks that ranges over functions left. -/
def Marks (W' : Nat → Prop) (x0 : Cx) (w : World) (ds : List Deferred) : Prop :=
  ∀ d ∈ ds, ∃ D, d = { target := .collected D, args := #[] } ∧ x0.w.heap.size ≤ D ∧ ¬ W' D ∧ w.heap[D]? = some (.deferred (some []))

/-- The state, at a place. -/
structure SC (W : Nat → Prop) (x0 : Cx) (N : Nat) (σ : St) (a : Act) (x : Cx) (W' : Nat → Prop) : Prop where
  sub : ∀ k, W' k → W k
  step : Step W x0 x
  hok : HOk W' x σ.H σ.nxt
  env : EnvOk x σ.env a.tmps
  size : a.tmps.size = N
  marks : Marks W' x0 x.w a.defers
  out : ∀ D, { target := .collected D, args := #[] } ∈ a.defers → ¬ x.I D
  nodup : a.defers.Nodup

def SRelY (W : Nat → Prop) (x0 : Cx) (N : Nat) (σ : St) (a : Act) (w : World) : Prop := ∃ (x : Cx) (W' : Nat → Prop), x.w = w ∧ SC W x0 N σ a x W'

theorem Step.wide {W W' : Nat → Prop} {x y : Cx} (h : Step W' x y) (hs : ∀ k, W' k → W k) : Step W x y :=
  ⟨h.ext, h.os, h.tape, h.output, fun k hk => h.frame k fun e => hk (hs k e), fun k hk => (h.new k hk).imp id (hs k)⟩

theorem SC.put {σ : St} {a : Act} {x : Cx} {W' : Nat → Prop} {d : Option Nat} {v : AV} {u : Value} (h : SC W x0 N σ a x W') (hv : RelV x v u) (hd : ∀ t, d = some t → t < N) : SC W x0 N (σ.put d v) (a.put d u) x W' := by
  cases d with
  | none => exact h
  | some d =>
    refine ⟨h.sub, h.step, h.hok, h.env.put hv (by rw [h.size]; exact hd d rfl), by simp [Act.put, h.size], h.marks, h.out, h.nodup⟩
theorem SC.go {σ σ' : St} {a : Act} {x y : Cx} {W' : Nat → Prop} (h : SC W x0 N σ a x W') (hs : Step W' x y) (hh : HOk W' y σ'.H σ'.nxt) (he : σ'.env = σ.env) : SC W x0 N σ' a y W' := by
  refine ⟨h.sub, h.step.trans (hs.wide h.sub), hh, by rw [he]; exact h.env.mono hs.ext, h.size, fun d hd => ?_, fun D hD hI => ?_, h.nodup⟩
  · obtain ⟨D, e, h1, h2, h3⟩ := h.marks d hd
    exact ⟨D, e, h1, h2, by rw [hs.frame D h2]; exact h3⟩
  · obtain ⟨D', e, _, h2, _⟩ := h.marks _ hD
    cases e
    rcases hs.new D hI with e | e
    · exact h.out D hD e
    · exact h2 e
theorem SC.putU {σ : St} {a : Act} {x : Cx} {W' : Nat → Prop} {d : Option Nat} (h : SC W x0 N σ a x W') (hd : ∀ t, d = some t → t < N) : SC W x0 N (σ.put d (.tup [])) (a.put d undef) x W' := h.put (undef_rel x) hd

def fen : Option Nat → Fence
  | none => Fence.wide
  | some l => Fence.wide.inRound l
theorem fen_fn (r : Option Nat) (f : FuncId) : (fen r).fn f := by cases r <;> trivial
theorem fen_depth (r : Option Nat) : (fen r).depth = none := by cases r <;> rfl
theorem fen_call {r : Option Nat} {n : Nat} {f : FuncId} {args : Array Value} {w : World} {R : Ending → World → Prop} (h : Calls P f args w R) : CallsIn (fen r) n P f args w R := by
  cases r with
  | none => exact callsIn_wide.2 h
  | some l => exact CallsIn.inRound l (callsIn_wide.2 h)
theorem fen_room (r : Option Nat) (n : Nat) : (fen r).room n := by
  cases r with
  | none => exact room_wide n
  | some l => exact fun h => room_wide n h

theorem convL_defer {o : Oper} {m : MO} (h : convL P o.op = some m) : ∀ c, o.op ≠ .defer c := by
  intro c e
  rw [e] at h
  simp [convL] at h
theorem convH_defer {o : Oper} {m : HO} (h : convH P o.op = some m) : ∀ c, o.op ≠ .defer c := by
  intro c e
  rw [e] at h
  simp [convH] at h

/-- One operation, in the state at hand. -/
theorem op_soundY {r : Option Nat} {n : Nat} {Y : Ora} {ops : Array Oper} {o : Oper} {m : MI} {σ : St} {a : Act} {w : World} {ms : List MI} {K : St → Prop} {Q : Exit → Act → World → Prop} {next : Act → World → Prop} (hrY : r = none ∨ Y = noY)
    (hc : convI P N ops o = some m) (hY : YOk P Y W x0) (hs : SRelY W x0 N σ a w) (h : aopsY P Y (m :: ms) σ K)
    (hnext : ∀ σ' a' w', aopsY P Y ms σ' K → SRelY W x0 N σ' a' w' → next a' w') :
    if Region.wanted o (yielded ops a.tmps) then o.wpIn (fen r) n P a w next Q else (∀ f, o.about P w a.eval = some f → (fen r).fn f) ∧ next (a.put o.dst undef) w := by
  unfold convI at hc
  split at hc
  · rename_i g hd hg
    have hdst := dstOk_spec hd
    obtain ⟨x, W', rfl, hs⟩ := hs
    cases hl : convL P o.op with
    | some mo =>
      simp only [hl, Option.some.injEq] at hc
      subst hc
      simp only [aopsY] at h
      rcases gd_sound hg hs.env h with ⟨hw, h⟩ | ⟨hw, h⟩
      · rw [if_pos hw]
        obtain ⟨v, t, hK, hy⟩ := lop_sound hl h
        obtain ⟨v', hK', hv'⟩ := spl_sound hK
        obtain ⟨u, hrun, hr⟩ := hy x a (hs.env.known _) (fun id _ blk b e1 e2 => by
          cases blk with
          | dead => trivial
          | _ => exact (hs.hok.at_ e1 rfl e2).2.2.2)
        refine ⟨fun f _ => fen_fn r f, ?_⟩
        rw [Oper.semAt_eq _ _ _ (convL_defer hl), hrun]
        exact hnext _ _ _ hK' ⟨x, W', rfl, hs.put (hv' _ _ hr) hdst⟩
      · rw [if_neg (by simp [hw])]
        exact ⟨fun f _ => fen_fn r f, hnext _ _ _ h ⟨x, W', rfl, hs.putU hdst⟩⟩
    | none =>
      simp only [hl] at hc
      cases hh : convH P o.op with
      | none => simp [hh] at hc
      | some mo =>
        simp only [hh, Option.some.injEq] at hc
        subst hc
        simp only [aopsY] at h
        rcases gd_sound hg hs.env h with ⟨hw, h⟩ | ⟨hw, h⟩
        · rw [if_pos hw]
          refine ⟨fun f _ => fen_fn r f, ?_⟩
          rw [Oper.semAt_eq _ _ _ (convH_defer hh)]
          have plain : mo.isCall = false → hop mo σ (fun v σ' => aopsY P Y ms (σ'.put o.dst v) K) → o.uponIn (fen r) n P a next Q ((execOp a.eval o).run P x.w) := by
            intro hn h
            obtain ⟨v, σ', y, u, hK, henv, hrun, hst, hok, hr⟩ := hop_sound (W := W') hh hn h x a hs.hok (hs.env.op o)
            have hrel := (hs.go (σ' := σ') hst hok henv).put hr hdst
            rcases hrun with hrun | ⟨hrun, rfl⟩
            · rw [hrun]
              exact hnext _ _ _ hK ⟨y, W', rfl, hrel⟩
            · rw [hrun]
              exact hnext _ _ _ hK ⟨y, W', rfl, hrel⟩
          cases mo with
          | call f xs =>
            simp only at h
            obtain ⟨of, oargs, ats, hop, hf, hxs⟩ := convH_call hh
            obtain ⟨fv, hfv, hrf⟩ := gx_sound hf h
            obtain ⟨as, has, hra⟩ := gxs_sound hxs hfv
            cases fv with
            | fn fn first caps =>
              cases fn with
              | func fid =>
                have hrf' := hrf x a (hs.env.known _)
                simp only [RelV] at hrf'
                obtain ⟨va, vc, ef, r1, r2⟩ := hrf'
                have hargs : RelVs x (first ++ (as ++ caps)) (va ++ (oargs.map a.eval ++ vc)).toList := by
                  simp only [Array.toList_append]
                  exact RelVs_append r1 (RelVs_append (by simpa using hra x a (hs.env.known _)) r2)
                have hexec : (execOp a.eval o).run P x.w = (callFunc fid (va ++ (oargs.map a.eval ++ vc))).run P x.w := by
                  simp only [execOp, hop, resolve, Deferred.ofValue, ef, invoke, pure_bind, Array.append_assoc]
                rw [hexec]
                rcases has.go W' x _ hs.hok hargs with ⟨e1, e2⟩ | ⟨v, y, r', H', n', e1, e2, e3, e4, e5⟩
                · rw [e1, Oper.uponIn_enter]
                  refine ⟨fun e => (by rw [fen_depth] at e; cases e), (fen_call e2).mono fun e w' ⟨v, he, y, r', H', n', hw', hK, hst, hok, hr⟩ => ?_⟩
                  subst he
                  subst hw'
                  exact hnext _ _ _ hK ⟨y, W', rfl, (hs.go (σ' := ⟨σ.env, H', n'⟩) hst hok rfl).put hr hdst⟩
                · rw [e1]
                  exact hnext _ _ _ e2 ⟨y, W', rfl, (hs.go (σ' := ⟨σ.env, H', n'⟩) e3 e4 rfl).put e5 hdst⟩
              | _ => exact has.elim
            | raw u =>
              have hrf' := hrf x a (hs.env.known _)
              simp only [RelV] at hrf'
              have hargs : RelVs x as (oargs.map a.eval).toList := by simpa using hra x a (hs.env.known _)
              rcases hrY with rfl | rfl
              · obtain ⟨l, fn, tmps, assign, body, hu, hrun, hround⟩ := hY u as σ.H σ.nxt _ x (oargs.map a.eval) W' hs.sub hs.step hs.hok hargs has
                have hexec : (execOp a.eval o).run P x.w = .ok (.round l fn tmps assign body) x.w := by
                  rw [← hrun]
                  simp only [execOp, hop, resolve, Deferred.ofValue, hrf'.1, hu, invoke, pure_bind, Array.append_assoc]
                  simp [go_sem]
                rw [hexec, Oper.uponIn_round]
                refine ⟨fun e => (by cases e), (hround (n - 1)).mono fun e w' ⟨v, he, y, r', H', n', hw', hK, hst, hok, hr⟩ => ?_⟩
                subst he
                subst hw'
                exact hnext _ _ _ hK ⟨y, W', rfl, (hs.go (σ' := ⟨σ.env, H', n'⟩) hst hok rfl).put hr hdst⟩
              · exact has.elim
            | _ => exact has.elim
          | _ => exact plain rfl h
        · rw [if_neg (by simp [hw])]
          exact ⟨fun f _ => fen_fn r f, hnext _ _ _ h ⟨x, W', rfl, hs.putU hdst⟩⟩
  · cases hc

theorem op_soundY2 {r : Option Nat} {n : Nat} {Y : Ora} {ops : Array Oper} {o : Oper} {m : MI} {σ : St} {a : Act} {w : World} {ms : List MI} {K : St → Prop} {Q : Exit → Act → World → Prop} {next : Act → World → Prop} (hrY : r = none ∨ Y = noY)
    (hc : convI2 P N ops o = some m) (hY : YOk P Y W x0) (hs : SRelY W x0 N σ a w) (h : aopsY P Y (m :: ms) σ K)
    (hnext : ∀ σ' a' w', aopsY P Y ms σ' K → SRelY W x0 N σ' a' w' → next a' w') :
    if Region.wanted o (yielded ops a.tmps) then o.wpIn (fen r) n P a w next Q else (∀ f, o.about P w a.eval = some f → (fen r).fn f) ∧ next (a.put o.dst undef) w := by
  unfold convI2 at hc
  split at hc
  · rename_i m' h1
    cases hc
    exact op_soundY hrY h1 hY hs h hnext
  · unfold badI at hc
    split at hc
    · rename_i g hd hg
      simp only [Option.some.injEq] at hc
      subst hc
      obtain ⟨x, W', rfl, hs⟩ := hs
      simp only [aopsY] at h
      rcases gd_sound hg hs.env h with ⟨hw, h⟩ | ⟨hw, h⟩
      · exact h.elim
      · rw [if_neg (by simp [hw])]
        exact ⟨fun f _ => fen_fn r f, hnext _ _ _ h ⟨x, W', rfl, hs.putU (dstOk_spec hd)⟩⟩
    · cases hc

theorem aopsY_sound {r : Option Nat} {n : Nat} {Y : Ora} {ops : Array Oper} {Q : Exit → Act → World → Prop} {K : St → Prop} (hrY : r = none ∨ Y = noY) (hY : YOk P Y W x0) (hQ : ∀ σ a w, K σ → SRelY W x0 N σ a w → Q .normal a w) :
    ∀ {l : List Oper} {ms : List MI} {σ : St} {a : Act} {w : World}, convIs P N ops l = some ms → aopsY P Y ms σ K → SRelY W x0 N σ a w → wpListIn (fen r) n P ops Q l a w
  | [], ms, σ, a, w, hc, h, hs => by
    simp only [convIs, Option.some.injEq] at hc
    subst hc
    exact hQ σ a w h hs
  | o :: l, ms, σ, a, w, hc, h, hs => by
    simp only [convIs] at hc
    split at hc
    · rename_i m ms' h1 h2
      simp only [Option.some.injEq] at hc
      subst hc
      exact op_soundY2 hrY h1 hY hs h fun σ' a' w' h' hs' => aopsY_sound hrY hY hQ h2 h' hs'
    · cases hc

theorem SRelY.le {B : Nat} {σ σ' : St} (hle : Le B σ σ') {a : Act} {w : World} (hx0 : ∀ id b, x0.loc id = some b → id < B) (h : SRelY W x0 N σ a w) : SRelY W x0 N σ' a w := by
  obtain ⟨x, W', rfl, h⟩ := h
  let z : Cx := { w := x.w, I := x.I, loc := fun i => if i < B then x.loc i else none }
  have hzx : Step W' z x := ⟨⟨fun id b e => (by
    simp only [z] at e
    by_cases hc : id < B
    · rw [if_pos hc] at e; exact e
    · rw [if_neg hc] at e; cases e), fun _ h => h, fun _ _ => rfl, Nat.le_refl _, fun _ cs _ fr h => ⟨cs, fr, h, rfl⟩⟩, rfl, rfl, rfl, fun _ _ => rfl, fun _ h => .inl h⟩
  have h0z : Step W x0 z := ⟨⟨fun id b e => (by
    simp only [z]
    rw [if_pos (hx0 id b e)]
    exact h.step.ext.loc id b e), h.step.ext.sub, h.step.ext.kept, h.step.ext.size, h.step.ext.rows⟩, h.step.os, h.step.tape, h.step.output, h.step.frame, h.step.new⟩
  obtain ⟨y, e, h1, h2, h3, h4, _⟩ := hle W' z N { tmps := a.tmps, defers := [] } x.w (fun id b e => by
    simp only [z] at e
    by_cases hc : id < B
    · exact hc
    · rw [if_neg hc] at e; cases e) ⟨x, rfl, hzx, h.hok, h.env, h.size, rfl⟩
  refine ⟨y, W', e, h.sub, h0z.trans (h1.wide h.sub), h2, h3, h.size, by rw [e]; exact h.marks, fun D hD hI => ?_, h.nodup⟩
  obtain ⟨D', e', _, g2, _⟩ := h.marks _ hD
  cases e'
  rcases h1.new D hI with q | q
  · exact h.out D hD q
  · exact g2 q

/-- A block that is no cells is another one. -/
structure Poke (l : Nat) (x y : Cx) : Prop where
  I : y.I = x.I
  loc : y.loc = x.loc
  os : y.w.os = x.w.os
  tape : y.w.tape = x.w.tape
  output : y.w.output = x.w.output
  size : y.w.heap.size = x.w.heap.size
  heap : ∀ k, k ≠ l → y.w.heap[k]? = x.w.heap[k]?
theorem Poke.mk' (x : Cx) (l : Nat) (o : Obj) : Poke l x { w := x.w.putObj l o, I := x.I, loc := x.loc } :=
  ⟨rfl, rfl, rfl, rfl, rfl, by simp [World.putObj], fun k hk => World.putObj_heap_other hk⟩
theorem Poke.ext {l : Nat} {x y : Cx} (h : Poke l x y) (hI : ¬ x.I l) (hnc : ∀ cs ty fr, x.w.heap[l]? ≠ some (.cells cs ty fr)) : Ext x y :=
  ⟨fun id b e => by rw [h.loc]; exact e, fun k hk => by rw [h.I]; exact hk, fun k hk => h.heap k fun e => hI (e ▸ hk), Nat.le_of_eq h.size.symm, fun k cs ty fr e => ⟨cs, fr, by rw [h.heap k fun e' => hnc cs ty fr (e' ▸ e)]; exact e, rfl⟩⟩
theorem Poke.hok {l : Nat} {x y : Cx} {W' : Nat → Prop} {H : List (Nat × Blk)} {nxt : Nat} (h : Poke l x y) (hI : ¬ x.I l) (hnc : ∀ cs ty fr, x.w.heap[l]? ≠ some (.cells cs ty fr)) (hh : HOk W' x H nxt) : HOk W' y H nxt := by
  have hext := h.ext hI hnc
  refine ⟨hh.keys, fun id k hk hl => ?_, fun id id' k k' b h1 h2 l1 l2 e1 e2 => hh.inj id id' k k' b h1 h2 l1 l2 (by rw [← h.loc]; exact e1) (by rw [← h.loc]; exact e2), fun id hid => by rw [h.loc]; exact hh.fresh id hid, hh.bound.ext hext fun k hk => by rw [h.size]; exact hh.bound k (by rw [← h.I]; exact hk), fun b hb => hh.room b (by rw [← h.size]; exact hb)⟩
  rcases hh.blk id k hk hl with ⟨f1, f2⟩ | ⟨b, e1, e2, e3, e4, e5⟩
  · exact .inl ⟨f1, by rw [h.loc]; exact f2⟩
  · refine .inr ⟨b, by rw [h.loc]; exact e1, e2, by rw [h.I]; exact e3, by rw [h.size]; exact e4, e5.mono hext (h.heap b fun e => ?_)⟩
    subst e
    cases k with
    | lit cs => obtain ⟨arr, ty, fr, q, _⟩ := e5; exact hnc _ _ _ q
    | rows n s c => obtain ⟨arr, ty, fr, q, _⟩ := e5; exact hnc _ _ _ q
    | dead => cases hl
theorem Step.patch {l : Nat} {x y x' y' : Cx} {W' : Nat → Prop} (h : Step W' x y) (px : Poke l x x') (py : Poke l y y') (hsame : y'.w.heap[l]? = x'.w.heap[l]?) (hnc : ∀ cs ty fr, x'.w.heap[l]? ≠ some (.cells cs ty fr)) : Step W' x' y' := by
  have hh : ∀ k, y.w.heap[k]? = x.w.heap[k]? → y'.w.heap[k]? = x'.w.heap[k]? := fun k e => by
    by_cases hk : k = l
    · rw [hk]; exact hsame
    · rw [py.heap k hk, px.heap k hk]; exact e
  refine ⟨⟨fun id b e => by rw [py.loc]; exact h.ext.loc id b (by rw [← px.loc]; exact e), fun k hk => by rw [py.I]; exact h.ext.sub k (by rw [← px.I]; exact hk), fun k hk => hh k (h.ext.kept k (by rw [← px.I]; exact hk)), by rw [px.size, py.size]; exact h.ext.size, fun k cs ty fr e => ?_⟩,
    by rw [py.os, px.os]; exact h.os, by rw [py.tape, px.tape]; exact h.tape, by rw [py.output, px.output]; exact h.output, fun k hk => hh k (h.frame k hk), fun k hk => ?_⟩
  · have hk : k ≠ l := fun e' => hnc cs ty fr (e' ▸ e)
    rw [px.heap k hk] at e
    obtain ⟨cs', fr', e', es⟩ := h.ext.rows k cs ty fr e
    exact ⟨cs', fr', by rw [py.heap k hk]; exact e', es⟩
  · rw [py.I] at hk
    rw [px.I]
    exact h.new k hk
theorem HOk.wide {W W' : Nat → Prop} {x : Cx} {H : List (Nat × Blk)} {nxt : Nat} (h : HOk W' x H nxt) (hs : ∀ k, W' k → W k) : HOk W x H nxt :=
  ⟨h.keys, fun id k hk hl => (h.blk id k hk hl).imp (fun q => q) fun ⟨b, e1, e2, e3, e4, e5⟩ => ⟨b, e1, hs b e2, e3, e4, e5⟩, h.inj, h.fresh, h.bound, fun b hb => hs b (h.room b hb)⟩

theorem zip_env {x : Cx} : ∀ (ps : List Nat) (as : List AV) (vs : List Value) (env : List (Nat × AV)) (tmps : Array Value), (∀ p ∈ ps, p < tmps.size) → as.length = ps.length → RelVs x as vs → EnvOk x env tmps →
    EnvOk x (zipE ps as env) ((ps.zip vs).foldl (fun t q => t.setIfInBounds q.1 q.2) tmps) ∧ ((ps.zip vs).foldl (fun t q => t.setIfInBounds q.1 q.2) tmps).size = tmps.size
  | [], as, vs, env, tmps, _, hl, _, he => by
    cases as with
    | nil => exact ⟨he, rfl⟩
    | cons a as => cases hl
  | p :: ps, [], vs, env, tmps, _, hl, _, _ => by cases hl
  | p :: ps, a :: as, [], env, tmps, _, _, hr, _ => by simp [RelVs] at hr
  | p :: ps, a :: as, v :: vs, env, tmps, hp, hl, hr, he => by
    simp only [RelVs] at hr
    have he' : EnvOk x ((p, a) :: env) (tmps.setIfInBounds p v) := by
      have := EnvOk.put (a := { tmps := tmps, defers := [] }) (d := p) he hr.1 (hp p (List.mem_cons_self ..))
      simpa [Act.put] using this
    have := zip_env ps as vs ((p, a) :: env) (tmps.setIfInBounds p v) (fun q hq => by simpa using hp q (List.mem_cons_of_mem _ hq)) (by simpa using hl) hr.2 he'
    exact ⟨this.1, by simpa using this.2⟩

def MPostY (W : Nat → Prop) (x0 : Cx) (N : Nat) (K : MX → St → Prop) : Exit → Act → World → Prop := fun e a w => ∃ m σ, e = exitOf m ∧ K m σ ∧ SRelY W x0 N σ a w
end

section
variable {P : Program} {N : Nat}
theorem not_cells {w : World} {l : Nat} {o : Obj} (h : w.heap[l]? = some o) (ho : o.isCells = false) : ∀ cs ty fr, w.heap[l]? ≠ some (.cells cs ty fr) := by
  intro cs ty fr e
  rw [h] at e
  cases e
  cases ho

theorem awpY_sound : ∀ {c : Code} {inr : Bool} {m : YC} {r : Option Nat} {n : Nat} {Y : Ora} {W : Nat → Prop} {x0 : Cx} {σ : St} {K : MX → St → Prop} {a : Act} {w : World}, convY P N inr c = some m → (inr = true ∨ r = none) → (r = none ∨ Y = noY) → YOk P Y W x0 → awpY P m Y σ K → SRelY W x0 N σ a w → c.wpIn (fen r) n P (MPostY W x0 N K) a w := by
  intro c
  induction c with
  | skip =>
    intro inr m r n Y W x0 σ K a w hc hi hrY hY h hs
    simp only [convY, Option.some.injEq] at hc
    subst hc
    exact wpIn_skip ⟨.normal, σ, rfl, h, hs⟩
  | region id ops draw =>
    intro inr m r n Y W x0 σ K a w hc hi hrY hY h hs
    cases draw with
    | true => simp [convY] at hc
    | false =>
      simp only [convY, Option.map_eq_some_iff] at hc
      obtain ⟨ms, hm, rfl⟩ := hc
      exact wpIn_region_list (aopsY_sound hrY hY (fun σ' a' w' hK hs' => ⟨.normal, σ', rfl, hK, hs'⟩) hm h hs)
  | seq c1 c2 ih1 ih2 =>
    intro inr m r n Y W x0 σ K a w hc hi hrY hY h hs
    simp only [convY] at hc
    split at hc
    · rename_i m1 m2 h1 h2
      simp only [Option.some.injEq] at hc
      subst hc
      refine wpIn_seq (wpIn_mono (ih1 h1 hi hrY hY h hs) ?_)
      rintro e a' w' ⟨mx, σ', rfl, hK, hs'⟩
      cases mx with
      | normal => exact ih2 h2 hi hrY hY hK hs'
      | exit id => exact ⟨.exit id, σ', rfl, hK, hs'⟩
      | ret => exact ⟨.ret, σ', rfl, hK, hs'⟩
    · cases hc
  | cond x c1 c2 ih1 ih2 =>
    intro inr m r n Y W x0 σ K a w hc hi hrY hY h hs
    simp only [convY] at hc
    split at hc
    · rename_i mx m1 m2 h0 h1 h2
      simp only [Option.some.injEq] at hc
      subst hc
      obtain ⟨v, hv, hr⟩ := gx_sound h0 h
      have hs' := hs
      obtain ⟨y, W', rfl, hsc⟩ := hs
      have hr := hr y a (hsc.env.known _)
      cases v with
      | tt => exact wpIn_cond_true (by simpa [RelV] using hr) (ih1 h1 hi hrY hY hv hs')
      | ff => exact wpIn_cond_false (by simpa [RelV] using hr) (ih2 h2 hi hrY hY hv hs')
      | b z =>
        have e : a.eval x = .bool z := by simpa [RelV] using hr
        cases z with
        | true => exact wpIn_cond_true e (ih1 h1 hi hrY hY (hv.1 rfl) hs')
        | false => exact wpIn_cond_false e (ih2 h2 hi hrY hY (hv.2 rfl) hs')
      | _ => exact hv.elim
    · cases hc
  | block id c ih =>
    intro inr m r n Y W x0 σ K a w hc hi hrY hY h hs
    simp only [convY, Option.map_eq_some_iff] at hc
    obtain ⟨m', h1, rfl⟩ := hc
    refine wpIn_block (wpIn_mono (ih h1 hi hrY hY h hs) ?_)
    rintro e a' w' ⟨mx, σ', rfl, hK, hs'⟩
    cases mx with
    | normal => exact ⟨.normal, σ', rfl, hK, hs'⟩
    | ret => exact ⟨.ret, σ', rfl, hK, hs'⟩
    | exit i =>
      simp only at hK
      simp only [exitOf, Exit.inBlock]
      cases hb : Nat.beq i id with
      | true =>
        simp only [hb] at hK
        rw [if_pos (Nat.eq_of_beq_eq_true hb)]
        exact ⟨.normal, σ', rfl, hK, hs'⟩
      | false =>
        simp only [hb] at hK
        rw [if_neg (fun e => by subst e; simp at hb)]
        exact ⟨.exit i, σ', rfl, hK, hs'⟩
  | loop c ih =>
    intro inr m r n Y W x0 σ K a w hc hi hrY hY h hs
    simp only [convY, Option.map_eq_some_iff] at hc
    obtain ⟨m', h1, rfl⟩ := hc
    obtain ⟨I, μ, ⟨σc, hle, hI⟩, round⟩ := h
    have hB : ∀ id b, x0.loc id = some b → id < σ.nxt := by
      obtain ⟨x, W', _, hsc⟩ := hs
      intro id b e
      rcases Nat.lt_or_ge id σ.nxt with hlt | hge
      · exact hlt
      · have := hsc.step.ext.loc id b e
        rw [hsc.hok.fresh id hge] at this
        cases this
    intro b k cs hro hb hr
    have key : ∀ j σ' a w, μ σ' = j → I σ' → SRelY W x0 N σ' a w →
        ∃ e a' w', MPostY W x0 N K e a' w' ∧ ArrivesIn (Machine.fenced P (fen r)) P (lone (b.atR a (.code c :: .inLoop c :: k)) cs w) b k cs e a' w' := by
      intro j
      induction j using Nat.strongRecOn with
      | _ j ihj =>
        intro σ' a w hn hI hs
        obtain ⟨e, a₁, w₁, ⟨mx, σ'', rfl, hK, hs''⟩, harr⟩ := ih h1 hi hrY hY (round σ' hI) hs b (.inLoop c :: k) cs hro hb hr
        cases mx with
        | normal =>
          obtain ⟨σc', hle', hI', hlt⟩ := hK
          obtain ⟨e₂, a₂, w₂, hq₂, harr₂⟩ := ihj (μ σc') (hn ▸ hlt) σc' a₁ w₁ rfl hI' (hs''.le hle' hB)
          exact ⟨e₂, a₂, w₂, hq₂, .of_steps (StepsIn.trans harr (.one (fenced_calm hb hr rfl) stepR_inLoop)) harr₂⟩
        | exit id => exact ⟨_, a₁, w₁, ⟨.exit id, σ'', rfl, hK, hs''⟩, .pass (x := .inLoop c) rfl (fun _ _ => .inl (by simp [exitOf])) harr⟩
        | ret => exact ⟨_, a₁, w₁, ⟨.ret, σ'', rfl, hK, hs''⟩, .pass (x := .inLoop c) rfl (fun _ _ => .inl (by simp [exitOf])) harr⟩
    obtain ⟨e, a', w', hq, harr⟩ := key _ σc a w rfl hI (hs.le hle hB)
    exact ⟨e, a', w', hq, .of_steps (.one (fenced_calm hb hr rfl) stepR_loop) harr⟩
  | exit id =>
    intro inr m r n Y W x0 σ K a w hc hi hrY hY h hs
    simp only [convY, Option.some.injEq] at hc
    subst hc
    exact wpIn_exit ⟨.exit id, σ, rfl, h, hs⟩
  | ret =>
    intro inr m r n Y W x0 σ K a w hc hi hrY hY h hs
    simp only [convY, Option.some.injEq] at hc
    subst hc
    exact wpIn_ret ⟨.ret, σ, rfl, h, hs⟩
  | refuse why =>
    intro inr m r n Y W x0 σ K a w hc hi hrY hY h hs
    simp only [convY, Option.some.injEq] at hc
    subst hc
    exact h.elim
  | rangeFunc g ps assign body ihA ihB =>
    intro inr m r n Y W x0 σ K a w hc hi hrY hY h hs
    simp only [convY] at hc
    split at hc
    · rename_i g' mA mB hg hA hB hps
      simp only [Option.some.injEq] at hc
      subst hc
      obtain rfl : r = none := hi.resolve_left (by decide)
      obtain ⟨x, W', rfl, hs⟩ := hs
      obtain ⟨fv, hfv, hrel⟩ := gx_sound hg h
      have hrel := hrel x a (hs.env.known _)
      cases fv with
      | fn f first caps =>
        cases f with
        | func gf =>
          cases first with
          | cons _ _ => exact hfv.elim
          | nil =>
            simp only [RelV] at hrel
            obtain ⟨p0, lb, ef, r1, r2⟩ := hrel
            have hp0 : p0 = #[] := by
              have := RelVs_length r1
              exact Array.eq_empty_of_size_eq_zero (by simpa using this)
            subst hp0
            have hD : x.w.heap.size < x.w.heap.size + 1 := Nat.lt_succ_self _
            refine wpIn_rangeFunc ?_
            intro fn hfn
            obtain ⟨rec, hrec⟩ : ∃ rec : LoopState → Option Code → Loop, rec = fun st pe => { state := st, pending := pe, fn, tmps := a.tmps, params := ps, assign, body, defers := x.w.heap.size } := ⟨_, rfl⟩
            obtain ⟨W1, hW1⟩ : ∃ W1, (x.w.alloc (.deferred (some []))).alloc (.loop (rec .ready none)) = W1 := ⟨_, rfl⟩
            have hL1 : W1.heap[x.w.heap.size + 1]? = some (.loop (rec .ready none)) := by
              rw [← hW1]; have := World.alloc_heap_new (x.w.alloc (.deferred (some []))) (.loop (rec .ready none)); rwa [World.size_alloc] at this
            have hK1 : W1.heap[x.w.heap.size]? = some (.deferred (some [])) := by
              rw [← hW1]; exact (Below.heap_alloc _ _ _ (by simp)).trans (World.alloc_heap_new x.w _)
            have hold : ∀ k, k < x.w.heap.size → W1.heap[k]? = x.w.heap[k]? := fun k hk => by
              rw [← hW1]; exact (Below.heap_alloc _ _ _ (by simp; omega)).trans (Below.heap_alloc _ _ _ hk)
            have hsz : W1.heap.size = x.w.heap.size + 2 := by rw [← hW1]; simp
            let l := x.w.heap.size + 1
            let x1 : Cx := { w := W1, I := x.I, loc := x.loc }
            have hxx1 : Step W' x x1 := by
              refine ⟨⟨fun _ _ e => e, fun _ h => h, fun k hk => hold k (hs.hok.bound k hk), by simp only [x1]; omega, fun k cs ty fr e => ⟨cs, fr, by simp only [x1]; rw [hold k (Array.getElem?_eq_some_iff.1 e).1]; exact e, rfl⟩⟩, by simp only [x1]; rw [← hW1]; rfl, by simp only [x1]; rw [← hW1]; rfl, by simp only [x1]; rw [← hW1]; rfl, fun k hk => ?_, fun _ h => .inl h⟩
              exact hold k (Nat.lt_of_not_le fun hle => hk (hs.hok.room k hle))
            let W2 : Nat → Prop := fun k => W' k ∧ k ≠ x.w.heap.size ∧ k ≠ x.w.heap.size + 1
            have hok1 : HOk W2 x1 σ.H σ.nxt := by
              refine ⟨hs.hok.keys, fun id k hk hl => ?_, hs.hok.inj, hs.hok.fresh, hs.hok.bound.ext hxx1.ext fun k hk => ?_, fun b hb => ?_⟩
              · rcases hs.hok.blk id k hk hl with f | ⟨b, e1, e2, e3, e4, e5⟩
                · exact .inl f
                · exact .inr ⟨b, e1, ⟨e2, by omega, by omega⟩, e3, by simp only [x1]; omega, e5.mono hxx1.ext (hold b e4)⟩
              · have := hs.hok.bound k hk
                simp only [x1]
                omega
              · simp only [x1] at hb
                exact ⟨hs.hok.room b (by omega), by omega, by omega⟩
            have hnI : ∀ k, x.w.heap.size ≤ k → ¬ x.I k := fun k hk hI => by have := hs.hok.bound k hI; omega
            have xcy := hfv (.func (.yield (x.w.heap.size + 1)) #[] #[])
            refine ⟨x.w.heap.size + 1, [{ target := .collected x.w.heap.size, args := #[] }], W1, { target := .fn (.func gf) lb, args := #[.func (.yield (x.w.heap.size + 1)) #[] #[]] }, W1, gf,
              #[.func (.yield (x.w.heap.size + 1)) #[] #[]] ++ lb, W1, ?_, ?_, ?_, ?_, (fun e => by cases e), ?_⟩
            · rw [← hW1, hrec]; exact run_enterLoop_outer _ _ _ _ _
            · simp only [resolve, ef]
              simp [go_sem]
            · intro f' _; trivial
            · simp [invoke, go_sem, xcy.run]
            · refine callsIn_wide.2 ((xcy.go W2 x1 _ hok1 ?_ ?_).mono ?_)
              · simp only [Array.toList_append, List.cons_append, List.nil_append, RelVs]
                exact ⟨by simp only [RelV]; exact ⟨trivial, rfl⟩, RelVs.mono hxx1.ext _ _ r2⟩
              · -- the oracle
                intro u as H nxt K' x2 vals W3 hsub3 hst hok2 hvals ⟨hu, hlen, hrun⟩
                have hl3 : ¬ W2 (x.w.heap.size + 1) := fun e => e.2.2 rfl
                have hl3' : ¬ W3 (x.w.heap.size + 1) := fun e => hl3 (hsub3 _ e)
                have hL2 : x2.w.heap[x.w.heap.size + 1]? = some (.loop (rec .ready none)) := by rw [hst.frame _ hl3]; exact hL1
                have hI2 : ¬ x2.I (x.w.heap.size + 1) := fun e => by
                  rcases hst.new _ e with e | e
                  · exact hnI _ (by omega) e
                  · exact hl3 e
                have hvl := RelVs_length hvals
                have hy := run_yield (P := P) (args := vals) hL2 (by rw [hrec]; simp only [Array.length_toList] at hvl; rw [hvl, hlen, Array.length_toList])
                rw [hrec] at hy
                refine ⟨_, fn, _, assign, body, hu, hy, fun n => roundIn_of_wpIn trivial ?_⟩
                have hpsN : ∀ p ∈ ps.toList, p < a.tmps.size := fun p hp => by
                  have := List.all_eq_true.1 hps p hp
                  rw [hs.size]
                  simpa using this
                have hz := zip_env (x := x2) ps.toList as vals.toList σ.env a.tmps hpsN hlen hvals ((hs.env.mono hxx1.ext).mono hst.ext)
                have hfold : (ps.zip vals).foldl (fun t (q : Tmp × Value) => t.setIfInBounds q.1 q.2) a.tmps = (ps.toList.zip vals.toList).foldl (fun t q => t.setIfInBounds q.1 q.2) a.tmps := by
                  rw [← Array.foldl_toList, Array.toList_zip]
                have sA : SRelY W3 x2 N ⟨zipE ps.toList as σ.env, H, nxt⟩ { tmps := (ps.zip vals).foldl (fun t (q : Tmp × Value) => t.setIfInBounds q.1 q.2) a.tmps, defers := [] } x2.w :=
                  ⟨x2, W3, rfl, fun _ h => h, Step.refl _ _, hok2, by rw [hfold]; exact hz.1, by rw [hfold]; exact hz.2.trans hs.size, (fun d hd => by cases hd), (fun D hd => by cases hd), List.nodup_nil⟩
                refine wpIn_mono (ihA (r := some (x.w.heap.size + 1)) (Y := noY) hA (.inl rfl) (.inr rfl) (noY_ok P W3 x2) hrun sA) ?_
                rintro e a1 w1 ⟨mx, σ1, rfl, ⟨rfl, hbody⟩, y1, W4, rfl, hs1⟩
                have hl4 : ¬ W4 (x.w.heap.size + 1) := fun e => hl3' (hs1.sub _ e)
                have hLy : y1.w.heap[x.w.heap.size + 1]? = some (.loop (rec .ready none)) := by rw [hs1.step.frame _ hl3']; exact hL2
                have hIy : ¬ y1.I (x.w.heap.size + 1) := fun e => (hs1.step.new _ e).elim hI2 hl3'
                refine ⟨_, run_beginRound hLy (by rw [hrec]), ?_⟩
                let x2' : Cx := { w := x2.w.putObj (x.w.heap.size + 1) (.loop { rec .ready none with state := .busy }), I := x2.I, loc := x2.loc }
                let y1' : Cx := { w := y1.w.putObj (x.w.heap.size + 1) (.loop { rec .ready none with state := .busy }), I := y1.I, loc := y1.loc }
                have px2 : Poke (x.w.heap.size + 1) x2 x2' := Poke.mk' _ _ _
                have py1 : Poke (x.w.heap.size + 1) y1 y1' := Poke.mk' _ _ _
                have hbx : x2'.w.heap[x.w.heap.size + 1]? = some (.loop { rec .ready none with state := .busy }) := World.putObj_heap_same (Array.getElem?_eq_some_iff.1 hL2).1
                have hby : y1'.w.heap[x.w.heap.size + 1]? = some (.loop { rec .ready none with state := .busy }) := World.putObj_heap_same (Array.getElem?_eq_some_iff.1 hLy).1
                have sB : SRelY W3 x2' N σ1 a1 y1'.w := by
                  refine ⟨y1', W4, rfl, hs1.sub, hs1.step.patch px2 py1 (hby.trans hbx.symm) (not_cells hbx rfl), py1.hok hIy (not_cells hLy rfl) hs1.hok, hs1.env.mono (py1.ext hIy (not_cells hLy rfl)), hs1.size, fun d hd => ?_, hs1.out, hs1.nodup⟩
                  obtain ⟨D, e, g1, g2, g3⟩ := hs1.marks d hd
                  refine ⟨D, e, by rw [px2.size]; exact g1, g2, ?_⟩
                  rw [py1.heap D fun e' => by rw [e', hLy] at g3; cases g3]
                  exact g3
                refine wpIn_mono (ihB (r := some (x.w.heap.size + 1)) (Y := noY) hB (.inl rfl) (.inr rfl) (noY_ok P W3 x2') hbody sB) ?_
                rintro e a2 w2 ⟨mx, σ2, rfl, ⟨rfl, hK'⟩, y2, W5, rfl, hs2⟩
                have hLz : y2.w.heap[x.w.heap.size + 1]? = some (.loop { rec .ready none with state := .busy }) := by rw [hs2.step.frame _ hl3']; exact hbx
                have hIz : ¬ y2.I (x.w.heap.size + 1) := fun e => (hs2.step.new _ e).elim hI2 hl3'
                refine ⟨_, _, run_endRound none hLz, _, rfl, { w := y2.w.putObj (x.w.heap.size + 1) (.loop (rec .ready none)), I := y2.I, loc := y2.loc }, .tt, σ2.H, σ2.nxt, ?_, hK', ?_, ?_, by simp only [RelV]; rfl⟩
                · rw [hrec]; rfl
                · have pz : Poke (x.w.heap.size + 1) y2 { w := y2.w.putObj (x.w.heap.size + 1) (.loop (rec .ready none)), I := y2.I, loc := y2.loc } := Poke.mk' _ _ _
                  have pb : Poke (x.w.heap.size + 1) x2' x2 := ⟨rfl, rfl, rfl, rfl, rfl, px2.size.symm, fun k hk => (px2.heap k hk).symm⟩
                  exact hs2.step.patch pb pz (by rw [hL2]; exact World.putObj_heap_same (Array.getElem?_eq_some_iff.1 hLz).1) (not_cells hL2 rfl)
                · exact ((Poke.mk' y2 _ _).hok hIz (not_cells hLz rfl) hs2.hok).wide hs2.sub
              · -- behind it
                rintro e w2 ⟨v, rfl, y, r', H', n', rfl, hK, hst, hok2, _⟩
                have hl2 : ¬ W2 (x.w.heap.size + 1) := fun e => e.2.2 rfl
                have hd2 : ¬ W2 x.w.heap.size := fun e => e.2.1 rfl
                have hLy : y.w.heap[x.w.heap.size + 1]? = some (.loop (rec .ready none)) := by rw [hst.frame _ hl2]; exact hL1
                have hDy : y.w.heap[x.w.heap.size]? = some (.deferred (some [])) := by rw [hst.frame _ hd2]; exact hK1
                have hIy : ∀ k, x.w.heap.size ≤ k → ¬ W2 k → ¬ y.I k := fun k hk hw e => (hst.new _ e).elim (hnI k hk) hw
                let y' : Cx := { w := y.w.putObj (x.w.heap.size + 1) (.loop { rec .ready none with state := .exhausted }), I := y.I, loc := y.loc }
                have py : Poke (x.w.heap.size + 1) y y' := Poke.mk' _ _ _
                have hIl := hIy _ (by omega) hl2
                have hyy : Step W y y' := by
                  have he := py.ext hIl (not_cells hLy rfl)
                  refine ⟨he, rfl, rfl, rfl, fun k hk => py.heap k fun e => hk ?_, fun k hk => .inl hk⟩
                  rw [e]
                  exact hs.sub _ (hs.hok.room _ (by omega))
                refine ⟨none, y'.w, ?_, ?_⟩
                · have := run_endLoop (P := P) hLy (by rw [hrec]; simp)
                  have hp : (rec .ready none).pending = none := by rw [hrec]
                  rw [this]
                  show Result.ok (rec .ready none).pending y'.w = Result.ok none y'.w
                  rw [hp]
                · refine ⟨.normal, ⟨σ.env, H', n'⟩, rfl, hK, y', W2, rfl, fun k hk => hs.sub k hk.1, ?_, py.hok hIl (not_cells hLy rfl) hok2, ((hs.env.mono hxx1.ext).mono hst.ext).mono (py.ext hIl (not_cells hLy rfl)), hs.size, fun d hd => ?_, fun D hD => ?_, ?_⟩
                  · exact (hs.step.trans (hxx1.wide hs.sub)).trans ((hst.wide fun k hk => hs.sub k hk.1).trans hyy)
                  · rcases List.mem_cons.1 hd with rfl | hd
                    · exact ⟨_, rfl, hs.step.ext.size, hd2, by rw [py.heap _ (by omega)]; exact hDy⟩
                    · obtain ⟨D, e, g1, g2, g3⟩ := hs.marks d hd
                      have hDlt : D < x.w.heap.size := (Array.getElem?_eq_some_iff.1 g3).1
                      refine ⟨D, e, g1, fun q => g2 q.1, ?_⟩
                      rw [py.heap D (by omega), hst.frame D fun q => g2 q.1]
                      exact (hold D hDlt).trans g3
                  · rcases List.mem_cons.1 hD with e | hD
                    · cases e
                      exact hIy _ (Nat.le_refl _) hd2
                    · obtain ⟨D', e, g1, g2, g3⟩ := hs.marks _ hD
                      cases e
                      exact fun q => (hst.new _ q).elim (hs.out D hD) fun q => g2 q.1
                  · refine List.nodup_cons.2 ⟨fun hD => ?_, hs.nodup⟩
                    obtain ⟨D', e, g1, g2, g3⟩ := hs.marks _ hD
                    cases e
                    have := (Array.getElem?_eq_some_iff.1 g3).1
                    omega
        | _ => exact hfv.elim
      | _ => exact hfv.elim
    · cases hc
  | _ =>
    intro inr m r n Y W x0 σ K a w hc hi hrY hY h hs
    simp [convY] at hc
end

def FnIsY (P : Program) (f : FuncId) (N : Nat) (mc : YC) (rs : List MR) : Prop :=
  ∃ fn c, P.funcs[f]? = some fn ∧ fn.body = some c ∧ (fn.name == "runtime.NumGoroutine") = false ∧ fn.ntmps = N ∧ convY P N false c = some mc ∧ convR P fn.results.toList = some rs

theorem XCY.body {P : Program} {Y : Ora} {f : FuncId} {N : Nat} {mc : YC} {rs : List MR} {args : List AV} {H : List (Nat × Blk)} {nxt : Nat} {K : AV → List (Nat × Blk) → Nat → Prop} (hf : FnIsY P f N mc rs) (hn : Nat.ble args.length N = true)
    (h : awpY P mc Y { env := enumEnv 0 args, H := H, nxt := nxt } (Rq rs K)) : XCY P Y f args H nxt K := by
  obtain ⟨fn, c, hfn, hb, hname, rfl, hc, hr⟩ := hf
  refine ⟨fun vals w => by simp only [callFunc, Sem.run_bind, run_program, Result.andThen_ok, hfn, hname, Bool.false_eq_true, if_false, hb, Option.isNone_some, Sem.run_pure], fun W x vals hh hrel hY => ?_⟩
  have hle := Nat.le_of_ble_eq_true hn
  have hlen : vals.size = args.length := by simpa using RelVs_length hrel
  refine (callsIn_wide (n := 0)).1 (callsIn_of_wp_marks hfn hb trivial ?_ rfl)
  have hs : SRelY W x fn.ntmps { env := enumEnv 0 args, H := H, nxt := nxt } { tmps := vals ++ Array.replicate (fn.ntmps - vals.size) undef, defers := [] } x.w := by
    refine ⟨x, W, rfl, fun _ h => h, Step.refl W x, hh, fun t v ht => ?_, by simp; omega, (fun d hd => by cases hd), (fun D hD => by cases hD), List.nodup_nil⟩
    obtain ⟨_, hv⟩ := enumEnv_lk _ _ _ _ ht
    simp only [Nat.sub_zero] at hv
    obtain ⟨u, hu, hru⟩ := RelVs_get hrel t v hv
    refine ⟨u, ?_, hru⟩
    have hlt : t < vals.size := by
      have := (List.getElem?_eq_some_iff.1 hu).1
      simpa using this
    rw [Array.getElem?_append_left hlt]
    simpa using hu
  refine wpIn_mono (awpY_sound (r := none) hc (.inr rfl) (.inl rfl) hY h hs) ?_
  rintro e a w ⟨m, σ, rfl, hK, y, W', rfl, hsc⟩
  have leave : (rget σ.env σ.H rs fun vs => K (rres vs) σ.H σ.nxt) → ∀ (ds : List Deferred) (z : Cx), Step W x z → HOk W z σ.H σ.nxt → EnvOk z σ.env a.tmps → (∀ d ∈ ds, ∃ D, d = { target := .collected D, args := #[] } ∧ x.w.heap.size ≤ D ∧ z.w.heap[D]? = some (.deferred (some []))) →
      (∀ D, { target := .collected D, args := #[] } ∈ ds → ¬ z.I D) → ds.Nodup → LeavesInM Fence.wide 0 P fn a.tmps (fun e w' => ∃ v, e = .returned v ∧ ∃ y r H' n', y.w = w' ∧ K r H' n' ∧ Step W x y ∧ HOk W y H' n' ∧ RelV y r v) ds .returning z.w := by
    intro hK ds
    induction ds with
    | nil =>
      intro z h1 h2 h3 _ _ _
      obtain ⟨vs, hvs, hrun⟩ := rget_sound hr hK
      obtain ⟨us, g1, g2⟩ := hrun W z a.tmps σ.nxt h2 h3
      have hul := RelVs_length g2
      refine ⟨(if h : us.toArray.size = 1 then us.toArray[0] else .tuple us.toArray), ?_, _, rfl, z, _, _, _, rfl, hvs, h1, h2, ?_⟩
      · have hfe : (fun r : ResultVar => (match r with
            | .tmp t => pure (a.tmps.getD t undef)
            | .cell b t => do loadVar t (← asAddr (a.tmps.getD b undef)) : Sem Value)) = resVar a.tmps := by
          funext r
          cases r <;> rfl
        unfold results
        rw [Array.mapM_eq_mapM_toList]
        have g1' := g1
        rw [← hfe] at g1'
        simp only [Sem.run_bind, Sem.run_map]
        first
          | rw [g1']
          | erw [g1']
        simp only [Result.andThen_ok, Sem.run_pure]
      · cases vs with
        | nil =>
          have : us = [] := List.eq_nil_of_length_eq_zero (by simpa using hul)
          subst this
          simp only [rres, RelV]
          exact ⟨#[], rfl, by simp [RelVs]⟩
        | cons v vs =>
          cases vs with
          | nil =>
            cases us with
            | nil => simp at hul
            | cons u us =>
              have : us = [] := List.eq_nil_of_length_eq_zero (by simpa using hul)
              subst this
              simp only [RelVs] at g2
              simpa [rres] using g2.1
          | cons v2 vs =>
            have hne : ¬ us.toArray.size = 1 := by simp [hul]
            rw [dif_neg hne]
            simp only [rres, RelV]
            exact ⟨_, rfl, by simpa using g2⟩
    | cons d ds ih =>
      intro z h1 h2 h3 hm ho hnd
      obtain ⟨D, rfl, hDx, hDz⟩ := hm d (List.mem_cons_self ..)
      have hID := ho D (List.mem_cons_self ..)
      let z' : Cx := { w := z.w.putObj D (.deferred none), I := z.I, loc := z.loc }
      have pz : Poke D z z' := Poke.mk' _ _ _
      have hnc := not_cells hDz rfl
      refine ⟨(fun e => by cases e), .inl ⟨D, _, rfl, run_takeDeferred hDz, ih z' (h1.trans ⟨pz.ext hID hnc, rfl, rfl, rfl, fun k hk => pz.heap k fun e => hk (by rw [e]; exact hh.room D hDx), fun k hk => .inl hk⟩) (pz.hok hID hnc h2) (h3.mono (pz.ext hID hnc)) (fun d' hd' => ?_) (fun D' hD' => ho D' (List.mem_cons_of_mem _ hD')) (List.nodup_cons.1 hnd).2⟩⟩
      obtain ⟨D', e, g1, g2⟩ := hm d' (List.mem_cons_of_mem _ hd')
      refine ⟨D', e, g1, ?_⟩
      rw [pz.heap D' fun e' => (List.nodup_cons.1 hnd).1 (by rw [← e', ← e]; exact hd')]
      exact g2
  have fin : (rget σ.env σ.H rs fun vs => K (rres vs) σ.H σ.nxt) → LeavesInM Fence.wide 0 P fn a.tmps (fun e w' => ∃ v, e = .returned v ∧ ∃ y r H' n', y.w = w' ∧ K r H' n' ∧ Step W x y ∧ HOk W y H' n' ∧ RelV y r v) a.defers .returning y.w := fun hK =>
    leave hK a.defers y hsc.step (hsc.hok.wide hsc.sub) hsc.env (fun d hd => by obtain ⟨D, e, g1, _, g3⟩ := hsc.marks d hd; exact ⟨D, e, g1, g3⟩) hsc.out hsc.nodup
  cases hK with
  | rt hK => exact fin hK
  | nx hK => exact fin hK
end Go.Hb

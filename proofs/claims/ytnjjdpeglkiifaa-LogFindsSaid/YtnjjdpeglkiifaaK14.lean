/- Texts in one file: MXU. -/
import Derived.Test.YtnjjdpeglkiifaaK13
import Derived.RangeFuncSeq
import Derived.RangeFuncLeaves
import Derived.OrdersIn

/- The engine, part U: ranges over a function, and functions that call yield. -/
namespace Go.Proofs.Ytnjjdpeglkiifaa.MX
open Go
set_option linter.unusedSimpArgs false
set_option linter.unusedVariables false
variable {P : Program} {N : Nat}

/-- The fence of a frame: of a round, or of none. -/
def Fz (r : Option Nat) : Fence := { Fence.wide with round := r }
/-- A call of yield. -/
def YieldH (P : Program) (l : Nat) (args : List Value) (h : Heap) (K : Value → Heap → Prop) : Prop :=
  ∀ w : World, w.heap = h → YieldAt Fence.wide 0 P l args.toArray w fun e w' => ∃ v, e = .returned v ∧ Alike w w' ∧ K v w'.heap
def OutY (P : Program) (o : Oper) (a : Act) (w : World) (K : Value → Heap → Prop) : Prop :=
  OpOut P o a w K ∨ ∃ l f tmps assign body, (execOp a.eval o).run P w = .ok (.round l f tmps assign body) w ∧ RoundIn Fence.wide 0 P l f tmps assign body w fun e w' => ∃ v, e = .returned v ∧ Alike w w' ∧ K v w'.heap

theorem OutY.wpIn {r : Option Nat} {o : Oper} {a : Act} {w : World} {K : Value → Heap → Prop} {next : Act → World → Prop} {Q : Exit → Act → World → Prop}
    (h : OutY P o a w K) (hnd : ∀ c, o.op ≠ .defer c) (hn : ∀ v w', Alike w w' → K v w'.heap → next (a.put o.dst v) w') : o.wpIn (Fz r) 0 P a w next Q := by
  refine ⟨fun _ _ => trivial, ?_⟩
  rw [Oper.semAt_eq _ _ _ hnd]
  rcases h with (⟨v, w', hr, ha, hk⟩ | ⟨w', hr, ha, hk⟩ | ⟨f, args, w', hr, ha, hk⟩) | ⟨l, f, tmps, aq, bd, hr, hR⟩
  · rw [hr]; exact hn _ _ ha hk
  · rw [hr]; exact hn _ _ ha hk
  · rw [hr]
    have := hk w' rfl
    rw [Array.toArray_toList] at this
    refine ⟨fun h => (by cases h), ?_⟩
    have h2 : CallsIn (Fz r) 0 P f args w' _ := callsIn_wide.2 this
    refine ⟨h2.1, fun cs hroom => ?_⟩
    obtain ⟨e, w'', fr, ⟨v, he, ha2, hk2⟩, hs, hx⟩ := h2.2 cs hroom
    subst he
    exact ⟨.returned v, w'', fr, hn _ _ (ha.trans ha2) hk2, hs, hx⟩
  · rw [hr]
    refine ⟨fun h => (by cases h), ?_⟩
    have h2 : RoundIn (Fz r) 0 P l f tmps aq bd w _ := hR
    refine ⟨h2.1, fun c cs hroom => ?_⟩
    obtain ⟨e, w'', ⟨v, he, ha2, hk2⟩, hs⟩ := h2.2 c cs hroom
    subst he
    exact ⟨.returned v, w'', hn _ _ ha2 hk2, hs⟩

/-! The meaning. -/
def callvY (P : Program) (x : Value) (args : List Value) (h : Heap) (K : Value → Heap → Prop) : Prop :=
  match x with
  | .func (.yield l) first captured => first = #[] ∧ captured = #[] ∧ YieldH P l args h K
  | x => callvW P x args h K
def Eff.wpY (P : Program) (ρ : Env) (h : Heap) (K : Value → Heap → Prop) : Eff → Prop
  | .callv x args => callvY P (ev ρ x) (args.map (ev ρ)) h K
  | e => e.wp P ρ h K
def MOp.wpY (P : Program) (ρ : Env) (h : Heap) (K : Value → Heap → Prop) : MOp → Prop
  | .e x => x.wpY P ρ h K
  | o => o.wp P ρ h K
def opsWpY (P : Program) : List MOper → (Env → Heap → Prop) → Env → Heap → Prop
  | [], K, ρ, h => K ρ h
  | o :: os, K, ρ, h => gateW (wantB ρ o.guard) (o.op.wpY P ρ h fun v h' => opsWpY P os K (updO ρ o.dst v) h') (opsWpY P os K (updO ρ o.dst undef) h)

/-- Code that may stand in a round: nothing is deferred, no order is drawn, no such range. -/
def okOpY (P : Program) (N : Nat) (o : Oper) : Bool :=
  match o.op with
  | .defer _ => false
  | .call _ => true
  | _ => match compOp P N o with
    | some (.e (.callv _ _)) => false
    | _ => true
/-- Operations of a region that draws, in a round. -/
def okDr (o : Oper) : Bool := match o.op with | .defer _ => false | _ => true
def okR (P : Program) (N : Nat) : Bool → Code → Bool
  | _, .skip => true
  | r, .region _ ops draw => if draw then (r || ops.toList.all okDr) else ops.toList.all (okOpY P N)
  | r, .seq a b => okR P N r a && okR P N r b
  | r, .cond _ a b => okR P N r a && okR P N r b
  | r, .block _ a => okR P N r a
  | r, .loop a => okR P N r a
  | _, .exit _ => true
  | _, .ret => true
  | r, .rangeFunc _ _ a b => r && okR P N false a && okR P N false b
  | _, _ => false

abbrev QY := MExit → List Nat → Env → Heap → Prop
def qseqY (k : List Nat → Env → Heap → Prop) (Q : QY) : QY
  | .normal, D, ρ, h => k D ρ h
  | e, D, ρ, h => Q e D ρ h
def qblkY (id : Nat) (Q : QY) : QY
  | .exit id', D, ρ, h => if id' = id then Q .normal D ρ h else Q (.exit id') D ρ h
  | e, D, ρ, h => Q e D ρ h

/-- What a loop's record says of the frame. -/
def RecOk (N : Nat) (ρ : Env) (ps : Array Tmp) (aq bd : Code) (rec : LoopState → Option Code → Loop) : Prop :=
  ∃ fn tmps D, tmps.size = N ∧ (∀ t, tmps.getD t undef = ρ t) ∧ rec = fun st pe => { state := st, pending := pe, fn, tmps, params := ps, assign := aq, body := bd, defers := D }
def jumpY (Q : QY) (D : List Nat) (ρ : Env) (h : Heap) : Option Code → Prop
  | none => Q .normal D ρ h
  | some (.exit id) => Q (.exit id) D ρ h
  | some .ret => Q .ret D ρ h
  | _ => False
def rangeY (P : Program) (N : Nat) (g : Operand) (ps : Array Tmp) (aq bd : Code) (Q : QY) (D : List Nat) (ρ : Env) (h : Heap) : Prop :=
  ∃ g' gf lb, opd N g = some g' ∧ ev ρ g' = .func (.func gf) #[] lb ∧ okFn P gf = true ∧ ∀ rec, RecOk N ρ ps aq bd rec →
    CallsH P gf (.func (.yield (h.size + 1)) #[] #[] :: lb.toList) ((h.push (.deferred (some []))).push (.loop (rec .ready none))) fun _ h' =>
      ∃ st pe, st ≠ .busy ∧ h'[h.size + 1]? = some (.loop (rec st pe)) ∧ jumpY Q (h.size :: D) ρ (h'.setIfInBounds (h.size + 1) (.loop (rec .exhausted pe))) pe

def mwpY (P : Program) (N : Nat) : MCode → QY → List Nat → Env → Heap → Prop
  | .skip, Q, D, ρ, h => Q .normal D ρ h
  | .fail, _, _, _, _ => False
  | .raw (.rangeFunc g ps aq bd), Q, D, ρ, h => rangeY P N g ps aq bd Q D ρ h
  | .raw _, _, _, _, _ => False
  | .ops l, Q, D, ρ, h => opsWpY P l (Q .normal D) ρ h
  | .draw l s, Q, D, ρ, h => mwp P (.draw l s) (fun e ρ h => Q e D ρ h) ρ h
  | .seq a b, Q, D, ρ, h => mwpY P N a (qseqY (mwpY P N b Q) Q) D ρ h
  | .cond c x y, Q, D, ρ, h => condW (ev ρ c) (mwpY P N x Q D ρ h) (mwpY P N y Q D ρ h)
  | .block id c, Q, D, ρ, h => mwpY P N c (qblkY id Q) D ρ h
  | .loop c, Q, D, ρ, h => ∃ (I : List Nat → Env → Heap → Prop) (μ : List Nat → Env → Heap → Nat), I D ρ h ∧ ∀ D ρ h, I D ρ h → mwpY P N c (qseqY (fun D' ρ' h' => I D' ρ' h' ∧ μ D' ρ' h' < μ D ρ h) Q) D ρ h
  | .exit id, Q, D, ρ, h => Q (.exit id) D ρ h
  | .ret, Q, D, ρ, h => Q .ret D ρ h

/-! Soundness. -/
def markOf (D : Nat) : Deferred := { target := .collected D, args := #[] }
def liftY (N : Nat) (w0 : World) (Q : QY) : Exit → Act → World → Prop
  | .normal, a, w => ∃ D : List Nat, a.defers = D.map markOf ∧ Alike w0 w ∧ ∃ ρ, Rel N a ρ ∧ Q .normal D ρ w.heap
  | .exit id, a, w => ∃ D : List Nat, a.defers = D.map markOf ∧ Alike w0 w ∧ ∃ ρ, Rel N a ρ ∧ Q (.exit id) D ρ w.heap
  | .ret, a, w => ∃ D : List Nat, a.defers = D.map markOf ∧ Alike w0 w ∧ ∃ ρ, Rel N a ρ ∧ Q .ret D ρ w.heap
  | _, _, _ => False

set_option maxHeartbeats 2000000 in
theorem compCall_callv {c : Call} {x : Opd} {args : List Opd} (hc : compCall P N c = some (.e (.callv x args))) : ∃ y, c.callee = .value y ∧ opd N y = some x ∧ opds N c.args.toList = some args := by
  unfold compCall at hc
  split at hc
  · obtain ⟨xs, _, hc⟩ := bindV_eq hc
    split at hc
    · obtain ⟨t, _, hc⟩ := bindV_eq hc
      split at hc <;> first | (cases hc; done) | (split at hc <;> cases hc)
    · obtain ⟨t, _, hc⟩ := bindV_eq hc
      split at hc <;> cases hc
    · cases hc
    · cases hc
    · obtain ⟨t, _, hc⟩ := bindV_eq hc
      obtain ⟨u, _, hc⟩ := bindV_eq hc
      split at hc
      · obtain ⟨_, _, hc⟩ := bindV_eq hc
        obtain ⟨_, _, hc⟩ := bindV_eq hc
        obtain ⟨_, _, hc⟩ := bindV_eq hc
        split at hc <;> cases hc
      · obtain ⟨_, _, hc⟩ := bindV_eq hc
        obtain ⟨_, _, hc⟩ := bindV_eq hc
        obtain ⟨_, _, hc⟩ := bindV_eq hc
        split at hc <;> cases hc
      · cases hc
    · obtain ⟨t, _, hc⟩ := bindV_eq hc
      split at hc
      · obtain ⟨_, _, hc⟩ := bindV_eq hc
        split at hc <;> cases hc
      · cases hc
    · obtain ⟨t, _, hc⟩ := bindV_eq hc
      split at hc
      · obtain ⟨_, _, hc⟩ := bindV_eq hc
        obtain ⟨_, _, hc⟩ := bindV_eq hc
        split at hc <;> cases hc
      · cases hc
    · cases hc
  · rename_i y hy
    obtain ⟨z, hz, hc⟩ := bindV_eq hc
    obtain ⟨xs, hxs, hc⟩ := bindV_eq hc
    split at hc
    · split at hc <;> cases hc
    · cases hc
      exact ⟨y, hy, hz, hxs⟩
    · cases hc
  · cases hc
theorem callvY_ok {o : Oper} {x : Operand} {cl : Call} {a : Act} {w : World} {K : Value → Heap → Prop} (ho : o.op = .call cl) {xs : List Value} (hcl : cl.callee = .value x) (hx : cl.args.toList.map a.eval = xs)
    (h : callvY P (a.eval x) xs w.heap K) : OutY P o a w K := by
  unfold callvY at h
  split at h
  · rename_i l first captured hfx
    obtain ⟨rfl, rfl, h⟩ := h
    have hargs : cl.args.map a.eval = xs.toArray := by
      apply Array.toList_inj.1
      simp [hx]
    obtain ⟨fn, tmps, aq, bd, hy, hR⟩ := h w rfl
    refine .inr ⟨l, fn, tmps, aq, bd, ?_, hR⟩
    simp [execOp, ho, resolve, hcl, hargs, hfx, Deferred.ofValue, invoke, hy]
  · exact .inl (callv_ok ho hcl hx h)
theorem compOp_soundY {o : Oper} {a : Act} {ρ : Env} {w : World} {K : Value → Heap → Prop} (hrel : Rel N a ρ) (hok : okOpY P N o = true) {m : MOp} (hc : compOp P N o = some m) (h : m.wpY P ρ w.heap K) : OutY P o a w K := by
  by_cases hv : ∃ x args, m = .e (.callv x args)
  · obtain ⟨x, args, rfl⟩ := hv
    cases ho : o.op with
    | call cl =>
      have hc' : compCall P N cl = some (.e (.callv x args)) := by
        unfold compOp at hc
        rw [ho] at hc
        simp only at hc
        split at hc
        · rename_i m' hm'
          cases hc
          exact hm'
        · split at hc <;> cases hc
      obtain ⟨y, hy, hx, hxs⟩ := compCall_callv hc'
      refine callvY_ok ho hy (opds_ev hrel hxs) ?_
      rw [opd_ev hrel hx]
      exact h
    | _ =>
      exfalso
      unfold okOpY at hok
      rw [ho, hc] at hok
      cases hok
  · refine .inl (compOp_sound hrel hc ?_)
    cases m with
    | e x =>
      cases x with
      | callv x args => exact absurd ⟨x, args, rfl⟩ hv
      | _ => exact h
    | _ => exact h

theorem opsY_sound {r : Option Nat} {w0 : World} {Q : QY} {D : List Nat} {ops : Array Oper} : ∀ (l : List Oper) (ms : List MOper) (a : Act) (ρ : Env) (w : World),
    l.all (okOpY P N) = true → Rel N a ρ → a.defers = D.map markOf → Alike w0 w → compOps P N ops.toList l = some ms → opsWpY P ms (fun ρ h => Q .normal D ρ h) ρ w.heap → wpListIn (Fz r) 0 P ops (liftY N w0 Q) l a w
  | [], ms, a, ρ, w, hok, hrel, hd, ha, hc, h => by
    cases hc
    exact ⟨D, hd, ha, ρ, hrel, h⟩
  | o :: os, ms, a, ρ, w, hok, hrel, hd, ha, hc, h => by
    simp only [compOps] at hc
    split at hc
    case isFalse => cases hc
    rename_i hdst
    obtain ⟨m, hm, hc⟩ := bindV_eq hc
    obtain ⟨g, hg, hc⟩ := bindV_eq hc
    obtain ⟨mr, hr, hc⟩ := bindV_eq hc
    cases hc
    simp only [List.all_cons, Bool.and_eq_true] at hok
    simp only [opsWpY, gateW] at h
    refine wpListIn_step fun K hK => ?_
    rw [wanted_guard hrel hg]
    split
    · rename_i hw
      rw [if_pos hw] at h
      have hnd : ∀ c, o.op ≠ .defer c := fun c he => by
        have := hok.1
        unfold okOpY at this
        rw [he] at this
        cases this
      refine OutY.wpIn (compOp_soundY hrel hok.1 hm h) hnd fun v w' ha' hk => hK _ _ ?_
      exact opsY_sound os mr _ _ w' hok.2 (hrel.put _ hdst _) (by rw [put_defers]; exact hd) (ha.trans ha') hr hk
    · rename_i hw
      rw [if_neg hw] at h
      refine ⟨fun _ _ => trivial, hK _ _ ?_⟩
      exact opsY_sound os mr _ _ w hok.2 (hrel.put _ hdst _) (by rw [put_defers]; exact hd) ha hr h

theorem liftY_seq {w0 : World} {k : List Nat → Env → Heap → Prop} {Q : QY} {next : Act → World → Prop} {e : Exit} {a : Act} {w : World}
    (hn : ∀ a w D ρ, Rel N a ρ → a.defers = D.map markOf → Alike w0 w → k D ρ w.heap → next a w) (h : liftY N w0 (qseqY k Q) e a w) : Exit.then next (liftY N w0 Q) e a w := by
  cases e with
  | normal => obtain ⟨D, hd, ha, ρ, hr, hk⟩ := h; exact hn a w D ρ hr hd ha hk
  | exit id => exact h
  | ret => exact h
  | goto l => exact h.elim
  | panic c => exact h.elim
  | outgrown => exact h.elim
theorem liftY_blk {w0 : World} {id : Nat} {Q : QY} {e : Exit} {a : Act} {w : World} (h : liftY N w0 (qblkY id Q) e a w) : Exit.inBlock id (liftY N w0 Q) e a w := by
  cases e with
  | normal => exact h
  | exit id' =>
    obtain ⟨D, hd, ha, ρ, hr, hk⟩ := h
    simp only [qblkY] at hk
    simp only [Exit.inBlock]
    split
    · rename_i he; rw [if_pos he] at hk; exact ⟨D, hd, ha, ρ, hr, hk⟩
    · rename_i he; rw [if_neg he] at hk; exact ⟨D, hd, ha, ρ, hr, hk⟩
  | ret => exact h
  | goto l => exact h.elim
  | panic c => exact h.elim
  | outgrown => exact h.elim

theorem range_sound {g : Operand} {ps : Array Tmp} {aq bd : Code} {Q : QY} {D : List Nat} {a : Act} {ρ : Env} {w w0 : World} (hrel : Rel N a ρ) (hd : a.defers = D.map markOf) (ha : Alike w0 w) (h : rangeY P N g ps aq bd Q D ρ w.heap) :
    (Code.rangeFunc g ps aq bd).wpIn (Fz none) 0 P (liftY N w0 Q) a w := by
  obtain ⟨g', gf, lb, hg, hev, hok, h⟩ := h
  have hge : a.eval g = .func (.func gf) #[] lb := by rw [opd_ev hrel hg, hev]
  refine wpIn_rangeFunc fun fn _ => ?_
  obtain ⟨rec, hrec⟩ : ∃ rec : LoopState → Option Code → Loop, rec = fun st pe => { state := st, pending := pe, fn, tmps := a.tmps, params := ps, assign := aq, body := bd, defers := w.heap.size } := ⟨_, rfl⟩
  have h := h rec ⟨fn, a.tmps, w.heap.size, hrel.size, hrel.get, hrec⟩
  obtain ⟨W1, hW1⟩ : ∃ W1, (w.alloc (.deferred (some []))).alloc (.loop (rec .ready none)) = W1 := ⟨_, rfl⟩
  have hheap : W1.heap = (w.heap.push (.deferred (some []))).push (.loop (rec .ready none)) := by rw [← hW1]; rfl
  have hal : Alike w W1 := by rw [← hW1]; exact ⟨rfl, rfl, rfl⟩
  refine ⟨w.heap.size + 1, [markOf w.heap.size], W1, { target := .fn (.func gf) lb, args := #[.func (.yield (w.heap.size + 1)) #[] #[]] }, W1, gf,
    #[.func (.yield (w.heap.size + 1)) #[] #[]] ++ lb, W1, ?_, ?_, fun _ _ => trivial, ?_, fun h => (by cases h), ?_⟩
  · rw [← hW1, hrec]; exact run_enterLoop_outer _ _ _ _ _
  · simp only [resolve, hge]
    simp [go_sem]
  · simp [invoke, callFunc_run hok]
  · have h2 : CallsIn (Fz none) 0 P gf (#[.func (.yield (w.heap.size + 1)) #[] #[]] ++ lb) W1 _ := callsIn_wide.2 (by
      have := h W1 hheap
      rw [show (Value.func (.yield (w.heap.size + 1)) #[] #[] :: lb.toList).toArray = #[.func (.yield (w.heap.size + 1)) #[] #[]] ++ lb by apply Array.toList_inj.1; simp] at this
      exact this)
    refine ⟨h2.1, fun cs hroom => ?_⟩
    obtain ⟨e, w3, fr, ⟨v, he, ha2, st, pe, hst, hl, hj⟩, hs, hx⟩ := h2.2 cs hroom
    subst he
    refine ⟨.returned v, w3, fr, ?_, hs, hx⟩
    have hend := run_endLoop (P := P) hl (by rw [hrec]; exact hst)
    refine ⟨pe, w3.putObj (w.heap.size + 1) (.loop (rec .exhausted pe)), ?_, ?_⟩
    · rw [hend, hrec]
    · have hal3 : Alike w0 (w3.putObj (w.heap.size + 1) (.loop (rec .exhausted pe))) := ha.trans (hal.trans ha2)
      have hdd : ({ a with defers := [markOf w.heap.size] ++ a.defers } : Act).defers = (w.heap.size :: D).map markOf := by simp [hd]
      have hrr : Rel N { a with defers := [markOf w.heap.size] ++ a.defers } ρ := ⟨hrel.size, hrel.get⟩
      cases pe with
      | none => exact ⟨_, hdd, hal3, ρ, hrr, hj⟩
      | some c =>
        cases c with
        | exit id => exact wpIn_exit ⟨_, hdd, hal3, ρ, hrr, hj⟩
        | ret => exact wpIn_ret ⟨_, hdd, hal3, ρ, hrr, hj⟩
        | _ => exact hj.elim

theorem rows_in {r : Option Nat} {n : Nat} {row : String} {args : Array Value} {w : World} {R : Value → World → Prop} (h : Rows P row args w R) : RowsIn (Fz r) n P row args w R :=
  fun c cs _ => let ⟨v, w', q, s⟩ := h c cs; ⟨v, w', q, stepsIn_wide.2 s⟩
theorem op_in {r : Option Nat} {o : Oper} {a : Act} {w : World} {K : Act → World → Prop} {Q : Exit → Act → World → Prop} (hnd : ∀ c, o.op ≠ .defer c) (h : o.wp P a w K Q) : o.wpIn (Fz r) 0 P a w K Q := by
  refine ⟨fun _ _ => trivial, ?_⟩
  rw [Oper.semAt_eq _ _ _ hnd]
  unfold Oper.wp at h
  generalize (execOp a.eval o).run P w = x at *
  cases x with
  | ok n w' =>
    cases n <;> simp only [Oper.upon, Oper.uponIn] at h ⊢ <;>
      first
        | exact h
        | exact ⟨fun hd => (by cases hd), callsIn_wide.2 h⟩
        | exact ⟨fun hd => (by cases hd), rows_in h⟩
  | halt x w' => cases x <;> simp only [Oper.upon, Oper.uponIn] at h ⊢ <;> exact h
theorem any_in {r : Option Nat} {md : Region.Mode} {ops : Array Oper} {Q : Exit → Act → World → Prop} (hnd : ∀ (i : Nat) (o : Oper), ops[i]? = some o → ∀ c, o.op ≠ .defer c) (hno : ¬ LetsOut Q) :
    ∀ (n : Nat) (listed : Array Bool) (a : Act) (w : World), wpAny P md ops Q n listed a w → wpAnyIn (Fz r) 0 P md ops Q n listed a w
  | 0, _, _, _, h => h
  | n + 1, listed, a, w, h => by
    refine ⟨h.1, fun i hi => ?_⟩
    have h2 := h.2 i hi
    unfold wpOp at h2
    unfold wpOpIn
    split
    · rename_i ho
      simp only [ho] at h2
      exact any_in hnd hno n _ _ _ h2
    · rename_i o ho
      simp only [ho] at h2
      split
      · rename_i hw
        simp only [hw, if_true] at h2
        rcases h2 with h2 | h2
        · exact op_in (hnd i o ho) (Oper.wp_mono (fun a w hk => any_in hnd hno n _ a w hk) h2)
        · exact (hno h2.2).elim
      · rename_i hw
        simp only [hw] at h2
        exact ⟨fun _ _ => trivial, any_in hnd hno n _ _ _ h2⟩
theorem lift_liftY {w0 : World} {Q : QY} {D : List Nat} {e : Exit} {a : Act} {w : World} (h : lift N (D.map markOf) w0 (fun e ρ h => Q e D ρ h) e a w) : liftY N w0 Q e a w := by
  cases e with
  | normal => obtain ⟨hd', ha', ρ', hr', hk⟩ := h; exact ⟨D, hd', ha', ρ', hr', hk⟩
  | exit id => obtain ⟨hd', ha', ρ', hr', hk⟩ := h; exact ⟨D, hd', ha', ρ', hr', hk⟩
  | ret => obtain ⟨hd', ha', ρ', hr', hk⟩ := h; exact ⟨D, hd', ha', ρ', hr', hk⟩
  | goto l => exact h.elim
  | panic c => exact h.elim
  | outgrown => exact h.elim
theorem draw_in {r : Option Nat} {id : Nat} {ops : Array Oper} {w0 : World} {Q : QY} {D : List Nat} {a : Act} {ρ : Env} {w : World} (hdr : ops.toList.all okDr = true) (hr : Rel N a ρ) (hd : a.defers = D.map markOf) (ha : Alike w0 w)
    (h : mwp P (compC P N (.region id ops true)) (fun e ρ h => Q e D ρ h) ρ w.heap) : (Code.region id ops true).wpIn (Fz r) 0 P (liftY N w0 Q) a w := by
  simp only [compC] at h
  split at h
  · rename_i ms hc
    simp only [if_true] at h
    split at h
    · rename_i hok
      simp only [Bool.and_eq_true] at hok
      obtain ⟨S, hS, h⟩ := h
      obtain ⟨hl, _⟩ := compOps_get _ _ hc
      refine wpIn_mono (Q := lift N (D.map markOf) w0 (fun e ρ h => Q e D ρ h)) (wpIn_region_any hok.2 ?_) fun e a w h => lift_liftY h
      have hsel : ∀ (j : Nat) (o : Oper) cs b, ops[j]? = some o → o.op ≠ .select cs b := by
        intro j o cs b ho heq
        have hm : o ∈ ops.toList := by
          rw [← Array.getElem?_toList] at ho
          exact List.mem_of_getElem? ho
        have := List.all_eq_true.1 hok.1 o hm
        obtain ⟨d, op, ty, ps, af, g⟩ := o
        subst heq
        cases this
      have hnd : ∀ (i : Nat) (o : Oper), ops[i]? = some o → ∀ c, o.op ≠ .defer c := by
        intro j o ho c heq
        have hm : o ∈ ops.toList := by
          rw [← Array.getElem?_toList] at ho
          exact List.mem_of_getElem? ho
        have := List.all_eq_true.1 hdr o hm
        unfold okDr at this
        rw [heq] at this
        cases this
      have hcl : Closed ops (List.replicate ops.toList.length false).toArray := by
        intro j o ho hl
        exfalso
        rcases Nat.lt_or_ge j ops.size with h' | h'
        · simp [Array.getD_eq_getD_getElem?, h'] at hl
        · simp [Array.getD_eq_getD_getElem?, Array.getElem?_eq_none h'] at hl
          rw [Array.getElem?_eq_none h'] at ho
          cases ho
      have hno : ¬ LetsOut (lift N (D.map markOf) w0 (fun e ρ h => Q e D ρ h)) := fun ⟨_, _, hx⟩ => hx
      have := any_in (r := r) hnd hno _ _ _ _ (Gd.any _ _ _ _ (draw_sound (w0 := w0) (ds := D.map markOf) (Qm := fun e ρ h => Q e D ρ h) (Sh := S) hc hsel rfl rfl (honest_of hl) ops.toList.length (List.replicate ops.toList.length false) a ρ w.drew hr hd ⟨ha.1, ha.2.1, ha.2.2⟩ hcl (fun _ => hS) h))
      simpa using this
    · exact h.elim
  · exact h.elim

theorem code_soundY {r : Option Nat} : ∀ (c : Code) {w0 : World} {Q : QY} {D : List Nat} {a : Act} {ρ : Env} {w : World}, okR P N r.isNone c = true → Rel N a ρ → a.defers = D.map markOf → Alike w0 w →
    mwpY P N (compC P N c) Q D ρ w.heap → c.wpIn (Fz r) 0 P (liftY N w0 Q) a w := by
  intro c
  induction c with
  | skip => intro w0 Q D a ρ w hok hr hd ha h; exact wpIn_skip ⟨D, hd, ha, ρ, hr, h⟩
  | region id ops draw =>
    intro w0 Q D a ρ w hok hr hd ha h
    cases draw with
    | true =>
      cases r with
      | some l =>
        have hdr : ops.toList.all okDr = true := by simpa [okR] using hok
        refine draw_in hdr hr hd ha ?_
        simp only [compC] at h ⊢
        split at h
        · simp only [if_true] at h ⊢
          split at h
          · rename_i hcond
            rw [if_pos hcond]
            exact h
          · exact h.elim
        · exact h.elim
      | none =>
        have hm : mwp P (compC P N (.region id ops true)) (fun e ρ h => Q e D ρ h) ρ w.heap := by
          simp only [compC] at h ⊢
          split at h
          · simp only [if_true] at h ⊢
            split at h
            · rename_i hcond
              rw [if_pos hcond]
              exact h
            · exact h.elim
          · exact h.elim
        have hw : (Code.region id ops true).wpIn Fence.wide 0 P (liftY N w0 Q) a w := wpIn_wide.2 (wp_mono (code_sound _ hr hd ha hm) fun e a' w' h' => by
          cases e with
          | normal => obtain ⟨hd', ha', ρ', hr', hk⟩ := h'; exact ⟨D, hd', ha', ρ', hr', hk⟩
          | exit id => obtain ⟨hd', ha', ρ', hr', hk⟩ := h'; exact ⟨D, hd', ha', ρ', hr', hk⟩
          | ret => obtain ⟨hd', ha', ρ', hr', hk⟩ := h'; exact ⟨D, hd', ha', ρ', hr', hk⟩
          | goto l => exact h'.elim
          | panic c => exact h'.elim
          | outgrown => exact h'.elim)
        exact hw
    | false =>
      simp only [compC] at h
      split at h
      · rename_i ms hc
        simp only [Bool.false_eq_true, if_false] at h
        exact wpIn_region_list (opsY_sound _ _ _ _ _ (by simpa [okR] using hok) hr hd ha hc h)
      · exact h.elim
  | seq x y ihx ihy =>
    intro w0 Q D a ρ w hok hr hd ha h
    simp only [okR, Bool.and_eq_true] at hok
    refine wpIn_seq (wpIn_mono (ihx hok.1 hr hd ha h) fun e a' w' h' => ?_)
    exact liftY_seq (fun a w D ρ hr hd ha hk => ihy hok.2 hr hd ha hk) h'
  | cond cc x y ihx ihy =>
    intro w0 Q D a ρ w hok hr hd ha h
    simp only [okR, Bool.and_eq_true] at hok
    simp only [compC] at h
    split at h
    · rename_i c' hc
      simp only [mwpY, condW] at h
      have he := opd_ev hr hc
      split at h
      · rename_i b hb
        refine wpIn_cond (t := b) (by rw [he, hb]) ?_
        cases b with
        | true => exact ihx hok.1 hr hd ha (by simpa using h)
        | false => exact ihy hok.2 hr hd ha (by simpa using h)
      · exact h.elim
    · exact h.elim
  | block id x ih =>
    intro w0 Q D a ρ w hok hr hd ha h
    exact wpIn_block (wpIn_mono (ih (by simpa [okR] using hok) hr hd ha h) fun e a' w' h' => liftY_blk h')
  | loop x ih =>
    intro w0 Q D a ρ w hok hr hd ha h
    obtain ⟨I, μ, h0, hround⟩ := h
    have hρ : ∀ {a : Act} {ρ : Env}, Rel N a ρ → ρ = fun t => a.tmps.getD t undef := fun h => funext fun t => (h.get t).symm
    have hD : ∀ {D D' : List Nat}, D.map markOf = D'.map markOf → D = D' := by
      intro D
      induction D with
      | nil => intro D' h; cases D' with
        | nil => rfl
        | cons _ _ => cases h
      | cons x xs ih => intro D' h; cases D' with
        | nil => cases h
        | cons y ys =>
          simp only [List.map_cons, List.cons.injEq] at h
          have h1 : x = y := by
            have := congrArg Deferred.target h.1
            simpa [markOf] using this
          rw [h1, ih h.2]
    refine wpIn_loop (fun a w => ∃ D : List Nat, a.defers = D.map markOf ∧ Alike w0 w ∧ a.tmps.size = N ∧ I D (fun t => a.tmps.getD t undef) w.heap)
      (fun a w => μ (Classical.epsilon fun D : List Nat => a.defers = D.map markOf) (fun t => a.tmps.getD t undef) w.heap) ⟨D, hd, ha, hr.size, by rw [← hρ hr]; exact h0⟩ ?_
    rintro a1 w1 ⟨D1, hd1, ha1, hs1, hI1⟩
    have hr1 : Rel N a1 (fun t => a1.tmps.getD t undef) := ⟨hs1, fun _ => rfl⟩
    have heps : ∀ {a : Act} {D : List Nat}, a.defers = D.map markOf → (Classical.epsilon fun D : List Nat => a.defers = D.map markOf) = D := fun {a D} h => hD ((Classical.epsilon_spec (p := fun D : List Nat => a.defers = D.map markOf) ⟨D, h⟩).symm.trans h)
    refine wpIn_mono (ih (by simpa [okR] using hok) hr1 hd1 ha1 (hround _ _ _ hI1)) fun e a' w' h' => ?_
    refine liftY_seq (fun a2 w2 D2 ρ2 hr2 hd2 ha2 hk => ?_) h'
    have := hρ hr2
    subst this
    exact ⟨⟨D2, hd2, ha2, hr2.size, hk.1⟩, by rw [heps hd2, heps hd1]; exact hk.2⟩
  | exit id => intro w0 Q D a ρ w hok hr hd ha h; exact wpIn_exit ⟨D, hd, ha, ρ, hr, h⟩
  | ret => intro w0 Q D a ρ w hok hr hd ha h; exact wpIn_ret ⟨D, hd, ha, ρ, hr, h⟩
  | rangeFunc f ps aq b _ _ =>
    intro w0 Q D a ρ w hok hr hd ha h
    cases r with
    | some l => simp [okR] at hok
    | none => exact range_sound hr hd ha h
  | scope b _ => intro w0 Q D a ρ w hok hr hd ha h; exact h.elim
  | label l => intro w0 Q D a ρ w hok hr hd ha h; exact h.elim
  | goto l => intro w0 Q D a ρ w hok hr hd ha h; exact h.elim
  | refuse why => intro w0 Q D a ρ w hok hr hd ha h; exact h.elim

/-! A round; a whole function. -/
def setTmps (ps : List Tmp) (args : List Value) (ρ : Env) : Env := (ps.zip args).foldl (fun ρ p => upd ρ p.1 p.2) ρ
theorem setTmps_rel {D : List Deferred} : ∀ (ps : List (Tmp × Value)) {tmps : Array Value} {ρ : Env}, (∀ p ∈ ps, p.1 < N) → tmps.size = N → (∀ t, tmps.getD t undef = ρ t) →
    Rel N { tmps := ps.foldl (fun t p => t.setIfInBounds p.1 p.2) tmps, defers := D } (ps.foldl (fun ρ p => upd ρ p.1 p.2) ρ)
  | [], _, _, _, hs, hg => ⟨hs, hg⟩
  | p :: ps, tmps, ρ, hp, hs, hg => by
    have h1 : Rel N ({ tmps := tmps, defers := D } : Act) ρ := ⟨hs, hg⟩
    have h2 := h1.put (some p.1) (by simp [dstOk]; exact hp p (by simp)) p.2
    exact setTmps_rel ps (fun q hq => hp q (List.mem_cons_of_mem _ hq)) h2.size h2.get
/-- A round, in the engine's words. -/
def qB (l : Nat) (rec : LoopState → Option Code → Loop) (K : Value → Heap → Prop) : QY := fun e _ _ h2 => h2[l]? = some (.loop (rec .busy none)) ∧ match e with
  | .normal => K (.bool true) (h2.setIfInBounds l (.loop (rec .ready none)))
  | .exit id => K (.bool false) (h2.setIfInBounds l (.loop (rec .done (some (.exit id)))))
  | .ret => K (.bool false) (h2.setIfInBounds l (.loop (rec .done (some .ret))))
def qA (P : Program) (N : Nat) (l : Nat) (rec : LoopState → Option Code → Loop) (cb : MCode) (K : Value → Heap → Prop) : QY := fun e D ρ1 h1 => match e with
  | .normal => h1[l]? = some (.loop (rec .ready none)) ∧ mwpY P N cb (qB l rec K) D ρ1 (h1.setIfInBounds l (.loop (rec .busy none)))
  | _ => False
def roundY (P : Program) (N : Nat) (l : Nat) (rec : LoopState → Option Code → Loop) (ca cb : MCode) (ρ : Env) (h : Heap) (K : Value → Heap → Prop) : Prop :=
  mwpY P N ca (qA P N l rec cb K) [] ρ h
def qAT (P : Program) (N : Nat) (l : Nat) (rec : LoopState → Option Code → Loop) (cb : MCode) (K : Value → Heap → Prop) (D : List Nat) (ρ : Env) (h : Heap) (_ : Tag cb) (_ : Tag ρ) (_ : Tag h) : Prop := qA P N l rec cb K .normal D ρ h
theorem qA_normal {l : Nat} {rec : LoopState → Option Code → Loop} {cb : MCode} {K : Value → Heap → Prop} {D : List Nat} {ρ : Env} {h : Heap} : qA P N l rec cb K .normal D ρ h = qAT P N l rec cb K D ρ h ⟨⟩ ⟨⟩ ⟨⟩ := (_root_.id rfl)
theorem qA_intro {l : Nat} {rec : LoopState → Option Code → Loop} {cb : MCode} {K : Value → Heap → Prop} {D : List Nat} {ρ : Env} {h : Heap} {t1 : Tag cb} {t2 : Tag ρ} {t3 : Tag h} (hl : h[l]? = some (.loop (rec .ready none))) (hb : mwpY P N cb (qB l rec K) D ρ (h.setIfInBounds l (.loop (rec .busy none)))) : qAT P N l rec cb K D ρ h t1 t2 t3 := ⟨hl, hb⟩
theorem qB_normal {l : Nat} {rec : LoopState → Option Code → Loop} {K : Value → Heap → Prop} {D : List Nat} {ρ : Env} {h : Heap} : qB l rec K .normal D ρ h = (h[l]? = some (.loop (rec .busy none)) ∧ K (.bool true) (h.setIfInBounds l (.loop (rec .ready none)))) := (_root_.id rfl)
theorem qB_exit {l id : Nat} {rec : LoopState → Option Code → Loop} {K : Value → Heap → Prop} {D : List Nat} {ρ : Env} {h : Heap} : qB l rec K (.exit id) D ρ h = (h[l]? = some (.loop (rec .busy none)) ∧ K (.bool false) (h.setIfInBounds l (.loop (rec .done (some (.exit id)))))) := (_root_.id rfl)
theorem yield_ok {ρ : Env} {ps : Array Tmp} {aq bd : Code} {rec : LoopState → Option Code → Loop} (hrec : RecOk N ρ ps aq bd rec) {l : Nat} {args : List Value} {h : Heap} {K : Value → Heap → Prop} (hl : h[l]? = some (.loop (rec .ready none)))
    (hn : args.length = ps.size) (hps : ∀ p ∈ ps.toList, p < N) (ha : okR P N false aq = true) (hb : okR P N false bd = true)
    (hr : roundY P N l rec (compC P N aq) (compC P N bd) (setTmps ps.toList args ρ) h K) : YieldH P l args h K := by
  intro w hw
  subst hw
  obtain ⟨fn, tmps, Db, hts, htg, rfl⟩ := hrec
  have hy := run_yield (P := P) (args := args.toArray) hl (by simpa using hn)
  refine ⟨fn, _, aq, bd, hy, ?_⟩
  refine roundIn_of_wpIn (F := Fence.wide) trivial ?_
  have hrel : Rel N { tmps := (ps.zip args.toArray).foldl (fun t (p, v) => t.setIfInBounds p v) tmps, defers := [] } (setTmps ps.toList args ρ) := by
    have := setTmps_rel (N := N) (D := []) (ps.toList.zip args) (fun p hp => hps p.1 (List.of_mem_zip hp).1) hts htg
    have e : (ps.zip args.toArray).foldl (fun t (p, v) => t.setIfInBounds p v) tmps = (ps.toList.zip args).foldl (fun t p => t.setIfInBounds p.1 p.2) tmps := by
      rw [← Array.foldl_toList, Array.toList_zip]
    rw [e]
    exact this
  refine wpIn_mono (code_soundY (r := some l) (D := []) (w0 := w) aq ha hrel rfl (.refl w) hr) fun e a1 w1 h1 => ?_
  cases e with
  | normal =>
    obtain ⟨D1, hd1, ha1, ρ1, hr1, hl1, hb1⟩ := h1
    refine ⟨_, run_beginRound hl1 rfl, ?_⟩
    refine wpIn_mono (code_soundY (r := some l) (D := D1) (w0 := w) (w := w1.putObj l (.loop { state := .busy, pending := none, fn, tmps, params := ps, assign := aq, body := bd, defers := Db })) bd hb hr1 hd1 ⟨ha1.1, ha1.2.1, ha1.2.2⟩ hb1) fun e a2 w2 h2 => ?_
    cases e with
    | normal =>
      obtain ⟨D2, hd2, ha2, ρ2, hr2, hl2, hk⟩ := h2
      exact ⟨_, _, run_endRound none hl2, _, rfl, ⟨ha2.1, ha2.2.1, ha2.2.2⟩, hk⟩
    | exit id =>
      obtain ⟨D2, hd2, ha2, ρ2, hr2, hl2, hk⟩ := h2
      exact ⟨_, _, run_endRound _ hl2, _, rfl, ⟨ha2.1, ha2.2.1, ha2.2.2⟩, hk⟩
    | ret =>
      obtain ⟨D2, hd2, ha2, ρ2, hr2, hl2, hk⟩ := h2
      exact ⟨_, _, run_endRound _ hl2, _, rfl, ⟨ha2.1, ha2.2.1, ha2.2.2⟩, hk⟩
    | goto t => exact h2.elim
    | panic c => exact h2.elim
    | outgrown => exact h2.elim
  | exit id => obtain ⟨_, _, _, _, _, hk⟩ := h1; exact hk.elim
  | ret => obtain ⟨_, _, _, _, _, hk⟩ := h1; exact hk.elim
  | goto t => exact h1.elim
  | panic c => exact h1.elim
  | outgrown => exact h1.elim

/-- At a function's end its loops' blocks are shut. -/
def shut : List Nat → Heap → Heap
  | [], h => h
  | d :: ds, h => shut ds (h.setIfInBounds d (.deferred none))
def shutOk : List Nat → Heap → Prop
  | [], _ => True
  | d :: ds, h => h[d]? = some (.deferred (some [])) ∧ shutOk ds (h.setIfInBounds d (.deferred none))
def endY (rs : List MRes) (R : Value → Heap → Prop) (D : List Nat) (ρ : Env) (h : Heap) : Prop := shutOk D h ∧ bindO (resVs ρ (shut D h) rs) fun vs => R (oneOf vs) (shut D h)
def retY (rs : List MRes) (R : Value → Heap → Prop) : QY
  | .normal, D, ρ, h => endY rs R D ρ h
  | .ret, D, ρ, h => endY rs R D ρ h
  | .exit _, _, _, _ => False
theorem endY_ok {fn : Func} {rs : List MRes} (hrs : compRes P fn.ntmps fn.results.toList = some rs) {w0 : World} {R : Value → Heap → Prop} {ρ : Env} {a : Act} (hr : Rel fn.ntmps a ρ) : ∀ (D : List Nat) (w : World), Alike w0 w → endY rs R D ρ w.heap →
    LeavesInM Fence.wide 0 P fn a.tmps (fun e w' => ∃ v, e = .returned v ∧ Alike w0 w' ∧ R v w'.heap) (D.map markOf) .returning w
  | [], w, ha, h => by
    obtain ⟨vs, hv, hq⟩ := bindO_eq h.2
    exact ⟨_, results_ok hr hrs hv, _, rfl, ha, hq⟩
  | d :: ds, w, ha, h => by
    obtain ⟨⟨h1, h2⟩, h3⟩ := h
    refine ⟨by simp, .inl ⟨d, w.putObj d (.deferred none), rfl, run_takeDeferred h1, ?_⟩⟩
    exact endY_ok hrs hr ds (w.putObj d (.deferred none)) ⟨ha.1, ha.2.1, ha.2.2⟩ ⟨h2, h3⟩
def okFnY (P : Program) (f : FuncId) : Bool :=
  match P.funcs[f]? with
  | some fn => match fn.body with
    | some c => okR P fn.ntmps true c
    | none => false
  | none => false
theorem enterY {f : FuncId} {m : MFn} (hc : compF P f = some m) (hok : okFnY P f = true) {args : List Value} (hl : args.length ≤ m.n) {h0 : Heap} {R : Value → Heap → Prop}
    (h : ∀ K : Value → Heap → Prop, (∀ v h', R v h' → K v h') → mwpY P m.n m.code (retY m.res K) [] (argEnv args) h0) : CallsH P f args h0 R := by
  have h := h R (fun _ _ h => h)
  unfold compF at hc
  unfold okFnY at hok
  split at hc
  · rename_i fn hf
    rw [hf] at hok
    simp only at hok
    split at hc
    · rename_i c hb
      rw [hb] at hok
      simp only at hok
      obtain ⟨rs, hrs, hc⟩ := bindV_eq hc
      cases hc
      intro w hw
      subst hw
      dsimp only at hl h
      have hrel : Rel fn.ntmps { tmps := args.toArray ++ Array.replicate (fn.ntmps - args.toArray.size) undef, defers := [] } (argEnv args) := by
        refine ⟨by simp; omega, fun t => ?_⟩
        simp only [argEnv, Array.getD_eq_getD_getElem?, List.getD_eq_getElem?_getD, Array.getElem?_append, Array.getElem?_replicate]
        by_cases h1 : t < args.toArray.size
        · simp only [h1, if_true]; simp
        · rw [if_neg h1]
          have h2 : args[t]? = none := List.getElem?_eq_none (by simpa using h1)
          rw [h2]
          split <;> rfl
      have := code_soundY (r := none) (D := []) (w0 := w) c hok hrel rfl (.refl w) h
      refine (callsIn_wide (n := 0)).1 (callsIn_of_wp_marks hf hb trivial (wpIn_mono this fun e a' w' he => ?_))
      cases e with
      | normal =>
        obtain ⟨D, hd, ha, ρ, hr, hq⟩ := he
        show LeavesInM _ _ _ _ _ _ a'.defers _ _
        rw [hd]
        exact endY_ok hrs hr D w' ha hq
      | ret =>
        obtain ⟨D, hd, ha, ρ, hr, hq⟩ := he
        show LeavesInM _ _ _ _ _ _ a'.defers _ _
        rw [hd]
        exact endY_ok hrs hr D w' ha hq
      | exit id => obtain ⟨_, _, _, _, _, hq⟩ := he; exact hq.elim
      | goto l => exact he.elim
      | panic c => exact he.elim
      | outgrown => exact he.elim
    · cases hc
  · cases hc

/-! The rules of the walk. -/
section
variable {Q : QY} {D : List Nat} {ρ : Env} {h : Heap} {C : Env → Heap → Prop} {K : Value → Heap → Prop}
def callvYT (P : Program) (x : Value) (args : List Value) (h : Heap) (K : Value → Heap → Prop) (_ : Tag h) (_ : Tag K) : Prop := callvY P x args h K
def rangeYT (P : Program) (N : Nat) (g : Operand) (ps : Array Tmp) (aq bd : Code) (Q : QY) (D : List Nat) (ρ : Env) (h : Heap) (_ : Tag aq) (_ : Tag bd) (_ : Tag Q) (_ : Tag ρ) (_ : Tag h) : Prop := rangeY P N g ps aq bd Q D ρ h
def loopYT (P : Program) (N : Nat) (c : MCode) (Q : QY) (D : List Nat) (ρ : Env) (h : Heap) (_ : Tag c) (_ : Tag Q) (_ : Tag ρ) (_ : Tag h) : Prop := mwpY P N (.loop c) Q D ρ h
theorem mY_skip : mwpY P N .skip Q D ρ h = Q .normal D ρ h := (_root_.id rfl)
theorem mY_ops {l : List MOper} : mwpY P N (.ops l) Q D ρ h = opsWpY P l (Q .normal D) ρ h := (_root_.id rfl)
theorem mY_draw {l : List MOper} {s : Sch} : mwpY P N (.draw l s) Q D ρ h = drawT P l s (fun e => Q e D) ρ h ⟨⟩ ⟨⟩ ⟨⟩ ⟨⟩ ⟨⟩ := (_root_.id rfl)
theorem mY_seq {a b : MCode} : mwpY P N (.seq a b) Q D ρ h = mwpY P N a (qseqY (mwpY P N b Q) Q) D ρ h := (_root_.id rfl)
theorem mY_cond {c : Opd} {x y : MCode} : mwpY P N (.cond c x y) Q D ρ h = condT (ev ρ c) (mwpY P N x Q D ρ h) (mwpY P N y Q D ρ h) ⟨⟩ ⟨⟩ := (_root_.id rfl)
theorem mY_block {id : Nat} {c : MCode} : mwpY P N (.block id c) Q D ρ h = mwpY P N c (qblkY id Q) D ρ h := (_root_.id rfl)
theorem mY_loop {c : MCode} : mwpY P N (.loop c) Q D ρ h = loopYT P N c Q D ρ h ⟨⟩ ⟨⟩ ⟨⟩ ⟨⟩ := (_root_.id rfl)
theorem mY_exit {id : Nat} : mwpY P N (.exit id) Q D ρ h = Q (.exit id) D ρ h := (_root_.id rfl)
theorem mY_ret : mwpY P N .ret Q D ρ h = Q .ret D ρ h := (_root_.id rfl)
theorem mY_raw {g : Operand} {ps : Array Tmp} {aq bd : Code} : mwpY P N (.raw (.rangeFunc g ps aq bd)) Q D ρ h = rangeYT P N g ps aq bd Q D ρ h ⟨⟩ ⟨⟩ ⟨⟩ ⟨⟩ ⟨⟩ := (_root_.id rfl)
theorem qY_normal {k : List Nat → Env → Heap → Prop} : qseqY k Q .normal = k := (_root_.id rfl)
theorem qY_ret {k : List Nat → Env → Heap → Prop} : qseqY k Q .ret = Q .ret := (_root_.id rfl)
theorem qY_exit {k : List Nat → Env → Heap → Prop} {id : Nat} : qseqY k Q (.exit id) = Q (.exit id) := (_root_.id rfl)
theorem bY_normal {id : Nat} : qblkY id Q .normal = Q .normal := (_root_.id rfl)
theorem bY_ret {id : Nat} : qblkY id Q .ret = Q .ret := (_root_.id rfl)
theorem bY_exit {id i : Nat} : qblkY id Q (.exit i) = if i = id then Q .normal else Q (.exit i) := by
  funext D ρ h
  simp only [qblkY]
  split <;> rfl
theorem retY_ret {rs : List MRes} {R : Value → Heap → Prop} : retY rs R .ret = endY rs R := (_root_.id rfl)
theorem retY_normal {rs : List MRes} {R : Value → Heap → Prop} : retY rs R .normal = endY rs R := (_root_.id rfl)
theorem endY_nil {rs : List MRes} {R : Value → Heap → Prop} : endY rs R [] ρ h = bindT (resVs ρ h rs) (fun vs => R (oneOf vs) h) ⟨⟩ := by
  simp only [endY, shutOk, shut, true_and]
  rfl
theorem opsY_nil : opsWpY P [] C ρ h = C ρ h := (_root_.id rfl)
theorem opsY_p {d : Option Nat} {x : Pure} {os : List MOper} : opsWpY P (⟨d, .p x, none⟩ :: os) C ρ h = bindT (x.val ρ) (fun v => opsWpY P os C (updO ρ d v) h) ⟨⟩ := by
  simp [opsWpY, wantB_none, gateW_true, MOp.wpY, MOp.wp, bindT]
theorem opsY_r {d : Option Nat} {x : Read} {os : List MOper} : opsWpY P (⟨d, .r x, none⟩ :: os) C ρ h = bindT (x.val ρ h) (fun v => opsWpY P os C (updO ρ d v) h) ⟨⟩ := by
  simp [opsWpY, wantB_none, gateW_true, MOp.wpY, MOp.wp, bindT]
theorem opsY_e {d : Option Nat} {x : Eff} {os : List MOper} : opsWpY P (⟨d, .e x, none⟩ :: os) C ρ h = x.wpY P ρ h fun v h' => opsWpY P os C (updO ρ d v) h' := by
  simp [opsWpY, wantB_none, gateW_true, MOp.wpY]
theorem opsY_g {d : Option Nat} {x : MOp} {g : Nat × Bool} {os : List MOper} : opsWpY P (⟨d, x, some g⟩ :: os) C ρ h = gateT (wantB ρ (some g)) (x.wpY P ρ h fun v h' => opsWpY P os C (updO ρ d v) h') (opsWpY P os C (updO ρ d undef) h) ⟨⟩ ⟨⟩ := (_root_.id rfl)
theorem wY_p {x : Pure} : MOp.wpY P ρ h K (.p x) = bindT (x.val ρ) (fun v => K v h) ⟨⟩ := (_root_.id rfl)
theorem wY_r {x : Read} : MOp.wpY P ρ h K (.r x) = bindT (x.val ρ h) (fun v => K v h) ⟨⟩ := (_root_.id rfl)
theorem wY_e {x : Eff} : MOp.wpY P ρ h K (.e x) = x.wpY P ρ h K := (_root_.id rfl)
theorem eY_callv {x : Opd} {xs : List Opd} : Eff.wpY P ρ h K (.callv x xs) = callvYT P (ev ρ x) (xs.map (ev ρ)) h K ⟨⟩ ⟨⟩ := (_root_.id rfl)
theorem eY_alloc {T : Nat} {z : List Value} : Eff.wpY P ρ h K (.alloc T z) = Eff.wp P ρ h K (.alloc T z) := (_root_.id rfl)
theorem eY_box {T : Nat} {x : Opd} : Eff.wpY P ρ h K (.box T x) = Eff.wp P ρ h K (.box T x) := (_root_.id rfl)
theorem eY_bslice {T len : Nat} {z : List Value} {ps : List (Nat × Nat × Opd)} : Eff.wpY P ρ h K (.bslice T len z ps) = Eff.wp P ρ h K (.bslice T len z ps) := (_root_.id rfl)
theorem eY_store {n : Nat} {a x : Opd} : Eff.wpY P ρ h K (.store n a x) = Eff.wp P ρ h K (.store n a x) := (_root_.id rfl)
theorem eY_append {T sz bytes : Nat} {z : List Value} {x y : Opd} : Eff.wpY P ρ h K (.append T sz bytes z x y) = Eff.wp P ρ h K (.append T sz bytes z x y) := (_root_.id rfl)
theorem eY_call {f : FuncId} {xs : List Opd} : Eff.wpY P ρ h K (.call f xs) = Eff.wp P ρ h K (.call f xs) := (_root_.id rfl)
attribute [go_sem ↓] qA_normal qB_normal qB_exit mY_skip mY_ops mY_draw mY_seq mY_cond mY_block mY_loop mY_exit mY_ret mY_raw qY_normal qY_ret qY_exit bY_normal bY_ret bY_exit retY_ret retY_normal endY_nil opsY_nil opsY_p opsY_r opsY_e opsY_g wY_p wY_r wY_e eY_callv eY_alloc eY_box eY_bslice eY_store eY_append eY_call
theorem YieldH.mono {l : Nat} {args : List Value} {R R' : Value → Heap → Prop} (hy : YieldH P l args h R) (hr : ∀ v h', R v h' → R' v h') : YieldH P l args h R' := by
  intro w hw
  obtain ⟨fn, tmps, aq, bd, h1, h2⟩ := hy w hw
  exact ⟨fn, tmps, aq, bd, h1, h2.mono fun e w' ⟨v, he, ha, hk⟩ => ⟨v, he, ha, hr _ _ hk⟩⟩
theorem yield_intro {l : Nat} {args : List Value} {s : Tag h} {t : Tag K} {R : Value → Heap → Prop} (hy : YieldH P l args h R) (hr : ∀ v h', R v h' → K v h') : callvYT P (.func (.yield l) #[] #[]) args h K s t :=
  ⟨rfl, rfl, hy.mono hr⟩
theorem loopY_intro {c : MCode} {t1 : Tag c} {t2 : Tag Q} {t3 : Tag ρ} {t4 : Tag h} (I : List Nat → Env → Heap → Prop) (μ : Env → Heap → Nat) (h0 : I D ρ h)
    (hr : ∀ D ρ h (J : List Nat → Env → Heap → Prop), (∀ D' ρ' h', I D' ρ' h' → μ ρ' h' < μ ρ h → J D' ρ' h') → I D ρ h → mwpY P N c (qseqY J Q) D ρ h) : loopYT P N c Q D ρ h t1 t2 t3 t4 :=
  ⟨I, fun _ => μ, h0, fun D ρ h hi => hr D ρ h _ (fun _ _ _ a b => ⟨a, b⟩) hi⟩
end

/-! A block that is no cells. -/
def objA (b : Nat) (o : Obj) : HP where
  P h B := B = [b] ∧ h[b]? = some o
  loc := fun ⟨e, hb⟩ hk => ⟨e, by subst e; rw [hk b (by simp)]; exact hb⟩
  lt := fun ⟨e, hb⟩ b' hm => by subst e; simp at hm; subst hm; exact (Array.getElem?_eq_some_iff.1 hb).1
section
variable {h0 h : Heap} {l : List HP} {b : Nat} {o : Obj}
theorem St.obj (S : St h0 h (objA b o :: l)) : h[b]? = some o := by
  obtain ⟨B, hp, _⟩ := S.hd
  exact hp.2
theorem St.objNew (S : St h0 h l) : St h0 (h.push o) (objA h.size o :: l) :=
  S.new ((Fr.refl _ _).push _) (C := [h.size]) ⟨rfl, by simp⟩ (by simp)
theorem St.objSet {o' : Obj} (S : St h0 h (objA b o :: l)) : St h0 (h.setIfInBounds b o') (objA b o' :: l) := by
  have hb := (Array.getElem?_eq_some_iff.1 S.obj).1
  obtain ⟨B, hp, _, hk⟩ := S.hd
  obtain ⟨rfl, _⟩ := hp
  exact hk _ _ [b] ((Fr.refl _ _).set (.inl (by simp)) _) ⟨rfl, by simp [hb]⟩ (fun b' hm => .inl hm)
end

end Go.Proofs.Ytnjjdpeglkiifaa.MX

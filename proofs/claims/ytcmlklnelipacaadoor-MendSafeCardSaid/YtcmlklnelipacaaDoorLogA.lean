/- A small logic of walks: code and operations over environments (what the temporaries hold), worlds as variables. Over whatever program. -/
import Derived.Orders
import Derived.Below
import Derived.Calls
import Derived.Tactics
import Derived.OrdersIn
import Derived.RangeFuncNested
import Derived.RangeFuncCalls
import Derived.RangeFuncLeaves
import Derived.TacticsIn
set_option linter.unusedVariables false
set_option linter.unusedSimpArgs false
namespace Go.Proofs.YtcmlklnelipacaaDoor
open Go.RowKit

/-! ### environments -/
abbrev Env := Nat → Value
def upd (ρ : Env) (d : Nat) (v : Value) : Env := fun t => match Nat.beq t d with | true => v | false => ρ t
def updO (ρ : Env) : Option Tmp → Value → Env
  | some d, v => upd ρ d v
  | none, _ => ρ
def ev (ρ : Env) : Operand → Value
  | .tmp t => ρ t
  | .const v => v
  | .global g => .pointer (some ⟨g, 0, none⟩)
  | .func f => .func (.func f) #[] #[]
def envOf (a : Act) : Env := fun t => a.tmps.getD t undef
def upds (ρ : Env) : List (Nat × Value) → Env
  | [] => ρ
  | (d, v) :: l => upd (upds ρ l) d v
def AllEq (ρ : Env) : List (Nat × Value) → Prop
  | [] => True
  | (d, v) :: l => ρ d = v ∧ AllEq ρ l
theorem upd_at (ρ : Env) (d : Nat) (v : Value) : upd ρ d v d = v := by simp [upd]
theorem upd_ne (ρ : Env) {d t : Nat} (v : Value) (h : t ≠ d) : upd ρ d v t = ρ t := by
  have : Nat.beq t d = false := by
    cases hb : Nat.beq t d with
    | false => rfl
    | true => exact absurd (Nat.eq_of_beq_eq_true hb) h
  simp [upd, this]
theorem upd_id {ρ : Env} {d : Nat} {v : Value} (h : ρ d = v) : upd ρ d v = ρ := by
  funext t
  by_cases e : t = d
  · subst e; rw [upd_at, h]
  · rw [upd_ne ρ v e]
theorem upds_eq (ρ : Env) : ∀ l, AllEq ρ l → ρ = upds ρ l
  | [], _ => rfl
  | (d, v) :: l, h => by
    have ih := upds_eq ρ l h.2
    show ρ = upd (upds ρ l) d v
    rw [← ih, upd_id h.1]
theorem eval_ev (a : Act) : a.eval = ev (envOf a) := by funext x; cases x <;> rfl
theorem envOf_put (a : Act) (o : Option Tmp) (v : Value) (h : ∀ d, o = some d → d < a.tmps.size) : envOf (a.put o v) = updO (envOf a) o v := by
  cases o with
  | none => rfl
  | some d =>
    funext t
    have hd := h d rfl
    show (a.tmps.setIfInBounds d v).getD t undef = upd (envOf a) d v t
    by_cases e : t = d
    · subst e; rw [upd_at]; simp [hd]
    · rw [upd_ne _ _ e]
      simp only [Array.getD_eq_getD_getElem?, Array.getElem?_setIfInBounds_ne (fun h => e h.symm), envOf]
theorem put_size (a : Act) (o : Option Tmp) (v : Value) : (a.put o v).tmps.size = a.tmps.size := by cases o <;> simp [Act.put]
theorem put_defs (a : Act) (o : Option Tmp) (v : Value) : (a.put o v).defers = a.defers := by cases o <;> rfl

/-! ### one operation -/
def yieldE (ops : Array Oper) (ρ : Env) (j : Nat) : Option Bool :=
  match (ops[j]?).bind (·.dst) with
  | some d => match ρ d with
    | .bool b => some b
    | _ => none
  | none => none
theorem yielded_env (ops : Array Oper) (a : Act) : yielded ops a.tmps = yieldE ops (envOf a) := by
  funext j
  unfold yielded yieldE
  cases h : (ops[j]?).bind (·.dst) with
  | none => rfl
  | some d =>
    simp only [Option.bind_some, envOf, Array.getD_eq_getD_getElem?]
    cases h2 : a.tmps[d]? with
    | none => simp [undef]
    | some v => cases v <;> rfl
/-- What is asked of one operation: it goes through, and K of what it leaves. -/
def OpU (P : Program) (K : Value → World → Prop) : Result Next → Prop
  | .ok (.value v) w' => K v w'
  | .ok .skip w' => K undef w'
  | .ok (.enter f args) w' => Calls P f args w' (fun e w'' => ∃ v, e = .returned v ∧ K v w'')
  | .ok (.row r args) w' => Rows P r args w' K
  | .ok (.round l f tmps assign body) w' => RoundIn Fence.wide 0 P l f tmps assign body w' (fun e w'' => ∃ v, e = .returned v ∧ K v w'')
  | _ => False
def OpK (P : Program) (o : Oper) (ρ : Env) (w : World) (K : Value → World → Prop) : Prop := OpU P K ((execOp (ev ρ) o).run P w)
theorem OpU.mono {P : Program} {K K' : Value → World → Prop} {r : Result Next} (h : ∀ v w, K v w → K' v w) (hh : OpU P K r) : OpU P K' r := by
  cases r with
  | halt x w => exact hh
  | ok n w =>
    cases n <;> first
      | exact h _ _ hh
      | exact Calls.mono hh (fun e w' ⟨v, he, hk⟩ => ⟨v, he, h _ _ hk⟩)
      | exact Rows.mono hh h
      | exact RoundIn.mono hh (fun e w' ⟨v, he, hk⟩ => ⟨v, he, h _ _ hk⟩)
      | exact hh
theorem OpK.mono {P : Program} {o : Oper} {ρ : Env} {w : World} {K K' : Value → World → Prop} (h : ∀ v w, K v w → K' v w) (hh : OpK P o ρ w K) : OpK P o ρ w K' := OpU.mono h hh
/-- A fence that bars nothing, in a round or in none. -/
def fence (ro : Option Nat) : Fence := { Fence.wide with round := ro }
theorem fence_none : fence none = Fence.wide := rfl
theorem calls_in {ro : Option Nat} {P : Program} {f : FuncId} {args : Array Value} {w : World} {R : Ending → World → Prop} (h : Calls P f args w R) : CallsIn (fence ro) 0 P f args w R := by
  have h1 : CallsIn Fence.wide 0 P f args w R := callsIn_wide.2 h
  exact h1
theorem rows_in {ro : Option Nat} {P : Program} {r : String} {args : Array Value} {w : World} {R : Value → World → Prop} (h : Rows P r args w R) : RowsIn (fence ro) 0 P r args w R := by
  have h1 : RowsIn Fence.wide 0 P r args w R := fun c cs _ => let ⟨v, w', q, st⟩ := h c cs; ⟨v, w', q, stepsIn_wide.2 st⟩
  exact h1
theorem rounds_in {ro : Option Nat} {P : Program} {l : Nat} {f : FuncId} {tmps : Array Value} {assign body : Code} {w : World} {R : Ending → World → Prop} (h : RoundIn Fence.wide 0 P l f tmps assign body w R) : RoundIn (fence ro) 0 P l f tmps assign body w R := h
theorem opU_defer {P : Program} {K : Value → World → Prop} {r : Result Next} (h : OpU P K r) : ∀ d w, r ≠ .ok (.defer d) w := by
  intro d w e; subst e; exact h
theorem OpK.noDefer {P : Program} {o : Oper} {ρ : Env} {w : World} {K : Value → World → Prop} (h : OpK P o ρ w K) : ∀ c, o.op ≠ .defer c := by
  intro c hc
  unfold OpK at h
  have e : execOp (ev ρ) o = (do pure (.defer (← resolve (ev ρ) c o.type))) := by unfold execOp; rw [hc]
  rw [e] at h
  simp only [Sem.run_bind] at h
  cases hr : (resolve (ev ρ) c o.type).run P w with
  | ok d w' => rw [hr] at h; exact h
  | halt x w' => rw [hr] at h; exact h
theorem OpK.upon {ro : Option Nat} {P : Program} {o : Oper} {a : Act} {w : World} {next : Act → World → Prop} {Q : Exit → Act → World → Prop}
    (h : OpK P o (envOf a) w (fun v w' => next (a.put o.dst v) w')) : o.wpIn (fence ro) 1 P a w next Q := by
  have hnd := h.noDefer
  unfold OpK at h
  refine ⟨fun _ _ => trivial, ?_⟩
  rw [Oper.semAt_eq _ _ _ hnd, eval_ev]
  generalize (execOp (ev (envOf a)) o).run P w = r at *
  cases r with
  | halt x w' => exact h.elim
  | ok n w' =>
    cases n <;> first
      | exact h
      | exact h.elim
      | exact ⟨fun hd => (by cases hd), calls_in (Calls.mono h (fun e w'' ⟨v, he, hk⟩ => by subst he; exact hk))⟩
      | exact ⟨fun hd => (by cases hd), rows_in h⟩
      | exact ⟨fun hd => (by cases hd), rounds_in (RoundIn.mono h (fun e w'' ⟨v, he, hk⟩ => by subst he; exact hk))⟩

/-! ### a list of operations, in its order -/
def RL (P : Program) (ops : Array Oper) (K : Env → World → Prop) : List Oper → Env → World → Prop
  | [], ρ, w => K ρ w
  | o :: rest, ρ, w => if Region.wanted o (yieldE ops ρ) then OpK P o ρ w (fun v w' => RL P ops K rest (updO ρ o.dst v) w') else RL P ops K rest (updO ρ o.dst undef) w
def dstOk (n : Nat) (o : Oper) : Bool := match o.dst with | some d => decide (d < n) | none => true
theorem dstOk_spec {n : Nat} {o : Oper} (h : dstOk n o = true) : ∀ d, o.dst = some d → d < n := by
  intro d hd
  simp [dstOk, hd] at h
  exact h
/-- Where code stands: how many temporaries, in which round, with which deferred calls; how the function's body may be left for good. -/
structure Cx where
  size : Nat
  ro : Option Nat
  ds : List Deferred
  top : Act → World → Prop
def QA (n : Cx) (Q : Exit → Env → World → Prop) : Exit → Act → World → Prop := fun e a w => (a.tmps.size = n.size ∧ a.defers = n.ds ∧ Q e (envOf a) w) ∨ (e = .ret ∧ n.top a w)
theorem RL.sound {P : Program} {ops : Array Oper} {n : Cx} {Q : Exit → Env → World → Prop} : ∀ (l : List Oper) (a : Act) (w : World),
    l.all (dstOk n.size) = true → a.tmps.size = n.size → a.defers = n.ds → RL P ops (Q .normal) l (envOf a) w → wpListIn (fence n.ro) 1 P ops (QA n Q) l a w
  | [], a, w, _, hs, hd, h => .inl ⟨hs, hd, h⟩
  | o :: rest, a, w, hl, hs, hd, h => by
    simp only [List.all_cons, Bool.and_eq_true] at hl
    have ho := dstOk_spec hl.1
    unfold wpListIn
    unfold RL at h
    rw [yielded_env]
    split
    · rename_i hw
      rw [if_pos hw] at h
      refine OpK.upon (OpK.mono (fun v w' hk => ?_) h)
      refine RL.sound rest _ w' hl.2 ((put_size _ _ _).trans hs) ((put_defs _ _ _).trans hd) ?_
      rw [envOf_put _ _ _ (fun d e => by rw [hs]; exact ho d e)]; exact hk
    · rename_i hw
      rw [if_neg hw] at h
      refine ⟨fun _ _ => trivial, RL.sound rest _ w hl.2 ((put_size _ _ _).trans hs) ((put_defs _ _ _).trans hd) ?_⟩
      rw [envOf_put _ _ _ (fun d e => by rw [hs]; exact ho d e)]; exact h

/-! ### code -/
def CW (P : Program) (n : Cx) (c : Code) (Q : Exit → Env → World → Prop) (ρ : Env) (w : World) : Prop :=
  ∀ a : Act, a.tmps.size = n.size → a.defers = n.ds → envOf a = ρ → c.wpIn (fence n.ro) 1 P (QA n Q) a w
def thenE (next : Env → World → Prop) (Q : Exit → Env → World → Prop) : Exit → Env → World → Prop
  | .normal, ρ, w => next ρ w
  | e, ρ, w => Q e ρ w
def inBlockE (id : Nat) (Q : Exit → Env → World → Prop) : Exit → Env → World → Prop
  | .exit id', ρ, w => if id' = id then Q .normal ρ w else Q (.exit id') ρ w
  | e, ρ, w => Q e ρ w

section rules
variable {P : Program} {n : Cx} {Q : Exit → Env → World → Prop} {ρ : Env} {w : World}
theorem CW.mono {c : Code} {Q' : Exit → Env → World → Prop} (hq : ∀ e ρ w, Q e ρ w → Q' e ρ w) (h : CW P n c Q ρ w) : CW P n c Q' ρ w :=
  fun a hs hd he => wpIn_mono (h a hs hd he) (fun e a w h => h.imp (fun ⟨h1, h2, h3⟩ => ⟨h1, h2, hq _ _ _ h3⟩) id)
theorem cw_skip (h : Q .normal ρ w) : CW P n .skip Q ρ w := fun a hs hd he => wpIn_skip (.inl ⟨hs, hd, he ▸ h⟩)
theorem cw_ret (h : Q .ret ρ w) : CW P n .ret Q ρ w := fun a hs hd he => wpIn_ret (.inl ⟨hs, hd, he ▸ h⟩)
theorem cw_exit {id : Nat} (h : Q (.exit id) ρ w) : CW P n (.exit id) Q ρ w := fun a hs hd he => wpIn_exit (.inl ⟨hs, hd, he ▸ h⟩)
theorem cw_seq {x y : Code} (h : CW P n x (thenE (CW P n y Q) Q) ρ w) : CW P n (.seq x y) Q ρ w := fun a hs hd he => by
  refine wpIn_seq (wpIn_mono (h a hs hd he) ?_)
  rintro e a' w' (⟨h1, h2, h3⟩ | ⟨rfl, h3⟩)
  · cases e with
    | normal => exact h3 a' h1 h2 rfl
    | _ => exact .inl ⟨h1, h2, h3⟩
  · exact .inr ⟨rfl, h3⟩
theorem cw_cond {c : Operand} {x y : Code} {b : Bool} (hc : ev ρ c = .bool b) (ht : b = true → CW P n x Q ρ w) (hf : b = false → CW P n y Q ρ w) :
    CW P n (.cond c x y) Q ρ w := fun a hs hd he => by
  refine wpIn_cond_split (t := b) (by rw [eval_ev, he]; exact hc) (fun h => ht h a hs hd he) (fun h => hf h a hs hd he)
theorem cw_condT {c : Operand} {x y : Code} (hc : ev ρ c = .bool true) (h : CW P n x Q ρ w) : CW P n (.cond c x y) Q ρ w := cw_cond hc (fun _ => h) (fun h => by cases h)
theorem cw_condF {c : Operand} {x y : Code} (hc : ev ρ c = .bool false) (h : CW P n y Q ρ w) : CW P n (.cond c x y) Q ρ w := cw_cond hc (fun h => by cases h) (fun _ => h)
theorem cw_if {c : Operand} {x y : Code} {p : Prop} [Decidable p] (hc : ev ρ c = .bool (decide p)) (ht : p → CW P n x Q ρ w) (hf : ¬p → CW P n y Q ρ w) :
    CW P n (.cond c x y) Q ρ w := cw_cond hc (fun h => ht (of_decide_eq_true h)) (fun h => hf (of_decide_eq_false h))
theorem cw_block {id : Nat} {c : Code} (h : CW P n c (inBlockE id Q) ρ w) : CW P n (.block id c) Q ρ w := fun a hs hd he => by
  refine wpIn_block (wpIn_mono (h a hs hd he) ?_)
  rintro e a' w' (⟨h1, h2, h3⟩ | ⟨rfl, h3⟩)
  · cases e with
    | exit id' =>
      simp only [inBlockE] at h3
      simp only [Exit.inBlock]
      split
      · rename_i hid; rw [if_pos hid] at h3; exact .inl ⟨h1, h2, h3⟩
      · rename_i hid; rw [if_neg hid] at h3; exact .inl ⟨h1, h2, h3⟩
    | _ => exact .inl ⟨h1, h2, h3⟩
  · exact .inr ⟨rfl, h3⟩
/-- A loop: I at a number that each round lowers. -/
theorem cw_loop {c : Code} (I : Nat → Env → World → Prop) (m : Nat) (h0 : I m ρ w)
    (round : ∀ m ρ w, I m ρ w → CW P n c (thenE (fun ρ' w' => ∃ m', m' < m ∧ I m' ρ' w') Q) ρ w) : CW P n (.loop c) Q ρ w := fun a hs hd he => by
  intro b k cs hro hb hr
  have key : ∀ m ρ w a, I m ρ w → a.tmps.size = n.size → a.defers = n.ds → envOf a = ρ →
      ∃ e a' w', QA n Q e a' w' ∧ ArrivesIn (Machine.fenced P (fence n.ro)) P (lone (b.atR a (.code c :: .inLoop c :: k)) cs w) b k cs e a' w' := by
    intro m
    induction m using Nat.strongRecOn with
    | _ m ih =>
      intro ρ w a hI hs hd he
      obtain ⟨e, a₁, w₁, hq, harr⟩ := round m ρ w hI a hs hd he b (.inLoop c :: k) cs hro hb hr
      rcases hq with ⟨g1, g2, g3⟩ | ⟨rfl, g3⟩
      · cases e with
        | normal =>
          obtain ⟨m', hlt, hI'⟩ := g3
          obtain ⟨e₂, a₂, w₂, hq₂, harr₂⟩ := ih m' hlt _ w₁ a₁ hI' g1 g2 rfl
          exact ⟨e₂, a₂, w₂, hq₂, .of_steps (StepsIn.trans harr (.one (fenced_calm hb hr rfl) stepR_inLoop)) harr₂⟩
        | exit id => exact ⟨_, a₁, w₁, .inl ⟨g1, g2, g3⟩, .pass (x := .inLoop c) rfl (fun _ _ => .inl (by simp)) harr⟩
        | goto l => exact ⟨_, a₁, w₁, .inl ⟨g1, g2, g3⟩, .pass (x := .inLoop c) rfl (fun _ _ => .inl (by simp)) harr⟩
        | ret => exact ⟨_, a₁, w₁, .inl ⟨g1, g2, g3⟩, .pass (x := .inLoop c) rfl (fun _ _ => .inl (by simp)) harr⟩
        | panic ch => exact ⟨_, a₁, w₁, .inl ⟨g1, g2, g3⟩, .pass (x := .inLoop c) rfl (fun _ _ => .inl (by simp)) harr⟩
        | outgrown => exact ⟨_, a₁, w₁, .inl ⟨g1, g2, g3⟩, .pass (x := .inLoop c) rfl (fun _ _ => .inl (by simp)) harr⟩
      · exact ⟨_, a₁, w₁, .inr ⟨rfl, g3⟩, .pass (x := .inLoop c) rfl (fun _ _ => .inl (by simp)) harr⟩
  obtain ⟨e, a', w', hq, harr⟩ := key m ρ w a h0 hs hd he
  exact ⟨e, a', w', hq, .of_steps (.one (fenced_calm hb hr rfl) stepR_loop) harr⟩
theorem cw_region {id : Nat} {l : List Oper} (hl : l.all (dstOk n.size) = true) (h : RL P l.toArray (Q .normal) l ρ w) : CW P n (.region id l.toArray false) Q ρ w := fun a hs hd he => by
  refine wpIn_region_lit (RL.sound l a w hl hs hd ?_)
  rw [he]; exact h
/-- A region, and what follows. -/
theorem cw_reg {id : Nat} {l : List Oper} {y : Code} (hl : l.all (dstOk n.size) = true) (h : RL P l.toArray (fun ρ w => CW P n y Q ρ w) l ρ w) : CW P n (.seq (.region id l.toArray false) y) Q ρ w :=
  cw_seq (cw_region hl h)
/-- Where ways meet, or what is known is said anew. -/
theorem cw_cut {x : Code} (J : Env → World → Prop) {K : Env → World → Prop} (h1 : CW P n x (thenE J Q) ρ w) (h2 : ∀ ρ w, J ρ w → K ρ w) : CW P n x (thenE K Q) ρ w := by
  refine CW.mono ?_ h1
  intro e ρ w h
  cases e <;> first | exact h2 _ _ h | exact h
theorem rl_cut {ops : Array Oper} {l1 l2 : List Oper} {K : Env → World → Prop} (J : Env → World → Prop) : ∀ {ρ : Env} {w : World}, RL P ops J l1 ρ w → (∀ ρ w, J ρ w → RL P ops K l2 ρ w) → RL P ops K (l1 ++ l2) ρ w := by
  induction l1 with
  | nil => intro ρ w h1 h2; exact h2 _ _ h1
  | cons o l ih =>
    intro ρ w h1 h2
    unfold RL at h1
    show RL P ops K (o :: (l ++ l2)) ρ w
    unfold RL
    split
    · rename_i hw; rw [if_pos hw] at h1; exact OpK.mono (fun v w' hk => ih hk h2) h1
    · rename_i hw; rw [if_neg hw] at h1; exact ih h1 h2
end rules

/-! ### a function -/
def resGet (ρ : Env) : ResultVar → Sem Value
  | .tmp t => pure (ρ t)
  | .cell a t => do loadVar t (← asAddr (ρ a))
def resultsE (fn : Func) (ρ : Env) : Sem Value := do
  let vs ← fn.results.mapM (resGet ρ)
  pure (if h : vs.size = 1 then vs[0] else .tuple vs)
def postE (P : Program) (fn : Func) (R : Ending → World → Prop) : Exit → Env → World → Prop
  | .normal, ρ, w | .ret, ρ, w => ∃ v, (resultsE fn ρ).run P w = .ok v w ∧ R (.returned v) w
  | _, _, _ => False
def argEnv (args : Array Value) : Env := fun t => args.getD t undef
/-- The function's context: its last word is the machine's own. -/
def top0 (P : Program) (fn : Func) (R : Ending → World → Prop) : Act → World → Prop := fun a w => bodyPostM Fence.wide 1 P fn R .ret a w
def cx (P : Program) (fn : Func) (R : Ending → World → Prop) : Cx := ⟨fn.ntmps, none, [], top0 P fn R⟩
theorem resultsE_eq (fn : Func) (a : Act) : resultsE fn (envOf a) = results fn a.tmps := by
  unfold resultsE results
  congr 1
theorem calls_cw {P : Program} {f : FuncId} {fn : Func} {c : Code} {args : Array Value} {w : World} {R : Ending → World → Prop}
    (hf : P.funcs[f]? = some fn) (hb : fn.body = some c) (hn : args.size ≤ fn.ntmps) (h : CW P (cx P fn R) c (postE P fn R) (argEnv args) w) : Calls P f args w R := by
  refine (callsIn_wide (n := 1)).1 (callsIn_of_wp_marks hf hb trivial (wpIn_mono (h _ (by simp [cx]; omega) rfl ?_) ?_))
  · funext t
    simp only [envOf, argEnv, Array.getD_eq_getD_getElem?]
    by_cases ht : t < args.size
    · rw [Array.getElem?_append_left ht]
    · rw [Array.getElem?_append_right (by omega), Array.getElem?_eq_none (by omega : args.size ≤ t)]
      simp only [Array.getElem?_replicate]
      split <;> rfl
  · rintro e a w (⟨_, hd, hq⟩ | ⟨rfl, ht⟩)
    · have hd : a.defers = [] := hd
      have hr := resultsE_eq fn a
      cases e <;> first
        | exact hq.elim
        | (obtain ⟨v, h1, h2⟩ := hq; rw [hr] at h1; simp only [bodyPostM, hd, LeavesInM, LeavesIn]; exact ⟨v, h1, h2⟩)
    · exact ht

end Go.Proofs.YtcmlklnelipacaaDoor

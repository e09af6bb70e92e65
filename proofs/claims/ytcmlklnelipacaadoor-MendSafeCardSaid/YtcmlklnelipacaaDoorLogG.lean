import Derived.Test.YtcmlklnelipacaaDoorLogF
/- Ranges over functions. -/
set_option linter.unusedVariables false
set_option linter.unusedSimpArgs false
namespace Go.Proofs.YtcmlklnelipacaaDoor
open Go.RowKit
theorem grown_of_kp {S : Nat → Prop} {w w' : World} {row : Option Nat} (h : Kp S w w') (hs : ∀ k, k < w.heap.size → S k → some k = row) : w.grownBy w' row :=
  ⟨h.os, h.tape, h.output, h.size, fun k hk hne => h.block k hk (fun hS => hne (hs k hk hS))⟩
theorem grown_of_ext {w w' : World} (h : Ext w w') : w.grownBy w' none := grown_of_kp h (fun _ _ h => h.elim)
theorem kp_of_grown {w w' : World} {row : Option Nat} {B : Nat} (h : w.grownBy w' row) : Kp (fun k => some k = row) w w' := ⟨h.os, h.tape, h.output, h.size, h.block⟩
theorem wpIn_room {ro : Option Nat} {m m' : Nat} {P : Program} {c : Code} {Q : Exit → Act → World → Prop} {a : Act} {w : World} (h : c.wpIn (fence ro) m P Q a w) : c.wpIn (fence ro) m' P Q a w :=
  fun b k cs hro hb _ => h b k cs hro hb (fun _ hd => by cases hd)
theorem fence_in (l : Nat) : (fence none).inRound l = fence (some l) := rfl
/-- A round's context; a function's, once a loop over a function has been left. -/
def rcx (fn : Func) (l : Nat) : Cx := ⟨fn.ntmps, some l, [], fun _ _ => False⟩
def mark (D : Nat) : Deferred := { target := .collected D, args := #[] }
def dcx (P : Program) (fn : Func) (R : Ending → World → Prop) (D : Nat) : Cx := ⟨fn.ntmps, none, [mark D], top0 P fn R⟩
def postF (P : Program) (fn : Func) (R : Ending → World → Prop) (D : Nat) : Exit → Env → World → Prop
  | .ret, ρ, w => w.heap[D]? = some (.deferred (some [])) ∧ ∃ v, (resultsE fn ρ).run P (w.putObj D (.deferred none)) = .ok v (w.putObj D (.deferred none)) ∧ R (.returned v) (w.putObj D (.deferred none))
  | _, _, _ => False
theorem cw_marked {P : Program} {fn : Func} {R : Ending → World → Prop} {D : Nat} {y : Code} {ρ : Env} {w : World} {Q : Exit → Env → World → Prop} (h : CW P (dcx P fn R D) y (postF P fn R D) ρ w) (a : Act) (hs : a.tmps.size = fn.ntmps) (he : envOf a = ρ) (hd : a.defers = [mark D]) :
    y.wpIn (fence none) 1 P (QA (cx P fn R) Q) a w := by
  refine wpIn_mono (h a hs hd he) ?_
  rintro e a' w' (⟨h1, h2, h3⟩ | ⟨rfl, h3⟩)
  · cases e with
    | ret =>
      obtain ⟨hD, v, hr, hR⟩ := h3
      refine .inr ⟨rfl, ?_⟩
      have h2' : a'.defers = [mark D] := h2
      show bodyPostM Fence.wide 1 P fn R .ret a' w'
      simp only [bodyPostM, h2', LeavesInM, mark]
      refine ⟨by simp, .inl ⟨D, _, rfl, run_takeDeferred hD, ?_⟩⟩
      rw [resultsE_eq] at hr
      exact ⟨v, hr, hR⟩
    | _ => exact h3.elim
  · exact .inr ⟨rfl, h3⟩
def CW2 (P : Program) (n : Cx) (b y : Code) (Q : Exit → Env → World → Prop) (ρ : Env) (w : World) : Prop :=
  ∀ a : Act, a.tmps.size = n.size → a.defers = n.ds → envOf a = ρ → b.wpIn (fence n.ro) 1 P (Exit.then (y.wpIn (fence n.ro) 1 P (QA n Q)) (QA n Q)) a w
theorem cw_seq2 {P : Program} {n : Cx} {Q : Exit → Env → World → Prop} {ρ : Env} {w : World} {id : Nat} {l : List Oper} {b y : Code} (hl : l.all (dstOk n.size) = true) (h : RL P l.toArray (fun ρ w => CW2 P n b y Q ρ w) l ρ w) :
    CW P n (.seq (.seq (.region id l.toArray false) b) y) Q ρ w := fun a hs hd he => by
  refine wpIn_seq (wpIn_seq (wpIn_mono (cw_region (Q := thenE (CW2 P n b y Q) (fun _ _ _ => False)) hl h a hs hd he) ?_))
  rintro e a' w' (⟨h1, h2, h3⟩ | ⟨_, h3⟩)
  · cases e with
    | normal => exact h3 a' h1 h2 rfl
    | _ => exact h3.elim
  · rename_i hr; subst hr; exact .inr ⟨rfl, h3⟩
theorem cw_rf {α : Type} {P : Program} {fn : Func} {R : Ending → World → Prop} {g : Operand} {p : Tmp} {assign body y : Code} {k : Nat} {ρ : Env} {w : World} {Q : Exit → Env → World → Prop}
    {gf : Nat} {lb : List Value} (hp : p < fn.ntmps) (hg : ev ρ g = .func (.func gf) #[] lb.toArray) (eg : ∀ args w, (callFunc gf args).run P w = .ok (.enter gf args) w)
    {enc : α → Value} {S : Nat → Prop} {All : List α → Prop} {N : Nat} (hS : ∀ k, w.heap.size ≤ k → S k)
    (hseq : SeqStopsK Fence.wide 0 P gf lb.toArray (fun x => #[enc x]) (fun A B => Kp S A B) All (fun _ => True) N w)
    (I : List α → World → Prop) (hI : OwnFrom w.heap.size I) (h0 : I [] w) (ρ1 : α → Env)
    (hassign : ∀ l x W, CW P (rcx fn l) assign (fun e ρ' W' => e = .normal ∧ W' = W ∧ ρ' = ρ1 x) (upd ρ p (enc x)) W)
    (hbody : ∀ l pre x W, I pre W → pre.length < N → CW P (rcx fn l) body (fun e _ W' => e = .normal ∧ KeepsOthers W W' ∧ Kp S W W' ∧ I (pre ++ [x]) W') (ρ1 x) W)
    (hdone : ∀ D xs W, w.heap.size ≤ D → All xs → I xs W → W.heap[D]? = some (.deferred (some [])) → CW P (dcx P fn R D) y (postF P fn R D) ρ W) :
    CW2 P (cx P fn R) (.block k (.rangeFunc g #[p] assign body)) y Q ρ w := fun a hs hd he => by
  refine wpIn_block ?_
  have hs' : a.tmps.size = fn.ntmps := hs
  have hd' : a.defers = [] := hd
  refine wpIn_rangeFunc_ownH (α := α) (F := Fence.wide) (n := 1) rfl (Nat.le_refl _) (gf := gf) (lb := lb.toArray) (by rw [eval_ev, he]; exact hg) trivial eg hseq (fun h k => h.trans k)
    (fun W l o o' hl ho _ _ => (Kp.of_grown (grownBy_putObj' W l o')).mono (fun k _ e => by cases e; exact hS _ hl)) (Below.refl _ _) (fun _ => rfl)
    I (fun _ _ _ => False) hI (fun _ _ _ _ _ h => h.elim) h0 (fun x a' _ => a'.tmps.size = fn.ntmps ∧ a'.defers = [] ∧ envOf a' = ρ1 x) (fun _ _ _ _ _ _ h _ _ => h) ?_ ?_ ?_ ?_
  · intro l pre x W K hi hK
    have := hassign l x W { tmps := (#[p].zip #[enc x]).foldl (fun t (p, v) => t.setIfInBounds p v) a.tmps, defers := [] } (by simp [rcx, hs']) rfl (by
      have e := envOf_put a (some p) (enc x) (fun d e => by cases e; rw [hs']; exact hp)
      rw [he] at e
      have e2 : (#[p].zip #[enc x]).foldl (fun t (p, v) => t.setIfInBounds p v) a.tmps = a.tmps.setIfInBounds p (enc x) := by simp
      have e3 := congrArg (fun t => envOf { tmps := t, defers := [] }) e2
      exact e3.trans e)
    refine wpIn_room (m := 1) (wpIn_mono this ?_)
    rintro e a' W' (⟨h1, h2, rfl, rfl, h4⟩ | ⟨_, h⟩)
    · exact hK a' W' (KeepsFrom.refl _ _) (Kp.refl _ _) hi ⟨h1, h2, h4⟩
    · exact h.elim
  · rintro l pre x a' W _ _ hi ⟨h1, h2, h3⟩ hlen
    refine wpIn_room (m := 1) (wpIn_mono (hbody l pre x W hi hlen a' h1 h2 h3) ?_)
    rintro e a3 W3 (⟨_, _, rfl, h5, h6, h7⟩ | ⟨_, h⟩)
    · exact ⟨h5.from _, h6, h7⟩
    · exact h.elim
  · intro D xs W hD hA hi hK
    have h := hdone D xs W hD hA hi hK
    exact cw_marked h _ hs' he (by simp [hd', mark])
  · intro D c pre W _ _ h; exact h.elim
section ops
variable {P : Program} {ρ : Env} {w : World} {K : Value → World → Prop} {dst : Option Tmp} {ty : TypeId} {pos : String} {aft : Array Edge} {gd : Option (Nat × Bool)}
theorem o_yield {l : Nat} {f x : Operand} {ats : Array TypeId} {v : Value} {A B : World → Prop} (hf : ev ρ f = .func (.yield l) #[] #[]) (hx : ev ρ x = v)
    (hy : YieldAt Fence.wide 0 P l #[v] w (fun e W' => (e = .returned (.bool true) ∧ A W') ∨ (e = .returned (.bool false) ∧ B W'))) (h1 : ∀ w', A w' → K (.bool true) w') (h2 : ∀ w', B w' → K (.bool false) w') :
    OpK P ⟨dst, .call ⟨.value f, #[x], ats⟩, ty, pos, aft, gd⟩ ρ w K := by
  obtain ⟨fn, tmps, assign, body, hr, hR⟩ := hy
  simp only [OpK, execOp, resolve]
  simp [hf, hx, invoke, Deferred.ofValue, hr, OpU]
  refine RoundIn.mono hR ?_
  rintro e w' (⟨rfl, h⟩ | ⟨rfl, h⟩)
  · exact ⟨_, rfl, h1 _ h⟩
  · exact ⟨_, rfl, h2 _ h⟩
end ops
theorem Rd.back {F S : Nat → Prop} {w w' : World} {k : Nat} {v : Value} {css : List (List Value)} (h : Rd F w' k v css) (hk : Kp S w w') (hs : ∀ b, F b → b < w.heap.size ∧ ¬ S b) : Rd F w k v css := by
  obtain ⟨ao, c, hv, hc, hl, hcs⟩ := h
  refine ⟨ao, c, hv, hc, hl, fun hne => ?_⟩
  obtain ⟨b, o, ha, hb, hF, h⟩ := hcs hne
  exact ⟨b, o, ha, (hs b hF).1, hF, fun i cs hi => (h i cs hi).of_block (hk.block b (hs b hF).1 (hs b hF).2).symm⟩
theorem ret_raw {P : Program} {fn : Func} {Φ : Ending → World → Prop} {ρ : Env} {w : World} {v : Value} (hr : (resultsE fn ρ).run P w = .ok v w) (h : Φ (.returned v) w) : postE P fn Φ .ret ρ w := ⟨v, hr, h⟩
theorem ret_rawN {P : Program} {fn : Func} {Φ : Ending → World → Prop} {ρ : Env} {w : World} {v : Value} (hr : (resultsE fn ρ).run P w = .ok v w) (h : Φ (.returned v) w) : postE P fn Φ .normal ρ w := ⟨v, hr, h⟩
/-- A turn of blocks that are no cells. -/
structure Turn (B : Nat) (W W' : World) : Prop where
  os : W'.os = W.os
  tape : W'.tape = W.tape
  output : W'.output = W.output
  size : W.heap.size ≤ W'.heap.size
  low : ∀ k, k < W.heap.size → k < B → W'.heap[k]? = W.heap[k]?
  cells : ∀ (k : Nat) (o : Obj), W.heap[k]? = some o → o.isCells = true → W'.heap[k]? = some o
theorem turn_of {B : Nat} {W W' : World} {row : Option Nat} (hg : W.grownBy W' row) (hr : ∀ r, row = some r → B ≤ r ∧ ∃ o : Obj, W.heap[r]? = some o ∧ o.isCells = false) : Turn B W W' := by
  refine ⟨hg.os, hg.tape, hg.output, hg.size, fun k hk hB => hg.block k hk (fun e => by have := (hr k e.symm).1; omega), fun k o ho hc => ?_⟩
  have hk : k < W.heap.size := (Array.getElem?_eq_some_iff.1 ho).1
  rw [hg.block k hk (fun e => by obtain ⟨_, o', ho', hc'⟩ := hr k e.symm; rw [ho] at ho'; cases ho'; rw [hc] at hc'; cases hc'), ho]
theorem ownFrom_of {β : Type} {B : Nat} {I : β → World → Prop} (h : ∀ s W W', Turn B W W' → I s W → I s W') : OwnFrom B I := fun s W W' row hs hg hr => h s W W' (turn_of hg hr) hs
theorem Box.turn {B : Nat} {W W' : World} {b : Nat} {cs : List Value} {T : TypeId} (h : Box W b cs T) (t : Turn B W W') : Box W' b cs T := t.cells _ _ h rfl
theorem own_turn {B : Nat} {W W' : World} {base : Nat} {e : TypeId} {size n : Nat} {v : Value} {xs : List Value} (h : W.ownsRow base e size v n xs) (t : Turn B W W') : W'.ownsRow base e size v n xs := by
  refine ⟨h.1, ?_⟩
  rcases h.2 with h1 | ⟨g, cap, cur, h1, h2, h3, h4⟩
  · exact .inl h1
  · exact .inr ⟨g, cap, cur, h1, h2, t.cells _ _ h3 rfl, h4⟩
theorem Kp.turn {S : Nat → Prop} {B : Nat} {w W W' : World} (h : Kp S w W) (t : Turn B W W') (hB : w.heap.size ≤ B) : Kp S w W' :=
  ⟨t.os.trans h.os, t.tape.trans h.tape, t.output.trans h.output, Nat.le_trans h.size t.size, fun k hk hS => (t.low k (Nat.lt_of_lt_of_le hk h.size) (by omega)).trans (h.block k hk hS)⟩
theorem At.turn {B : Nat} {W W' : World} {a : Addr} {cs : List Value} (h : At W a cs) (t : Turn B W W') : At W' a cs := by
  intro j v hj
  have hc := h j v hj
  obtain ⟨o, ho, hcells⟩ := cells_of_cell hc
  rw [World.cell?_of_block (w := W) (by rw [t.cells _ _ ho hcells, ho])]
  exact hc
theorem Rd.turn {F : Nat → Prop} {B : Nat} {W W' : World} {k : Nat} {v : Value} {css : List (List Value)} (h : Rd F W k v css) (t : Turn B W W') : Rd F W' k v css := by
  obtain ⟨ao, c, hv, hc, hl, hcs⟩ := h
  refine ⟨ao, c, hv, hc, hl, fun hne => ?_⟩
  obtain ⟨b, o, ha, hb, hFb, h⟩ := hcs hne
  exact ⟨b, o, ha, Nat.lt_of_lt_of_le hb t.size, hFb, fun i cs hi => (h i cs hi).turn t⟩
theorem keeps_of {S : Nat → Prop} {W W' : World} (h : Kp S W W') (hs : ∀ k, S k → ∃ cs T f, W.heap[k]? = some (.cells cs T f)) : KeepsOthers W W' := by
  refine ⟨h.size, fun k o ho hc => ?_⟩
  have hk : k < W.heap.size := (Array.getElem?_eq_some_iff.1 ho).1
  rw [h.block k hk (fun hS => by obtain ⟨cs, T, f, e⟩ := hs k hS; rw [ho] at e; cases e; cases hc), ho]
theorem cw2_norm {P : Program} {n : Cx} {b y : Code} {Q : Exit → Env → World → Prop} {ρ : Env} {w : World} (l : List (Nat × Value)) (h : AllEq ρ l) (hc : ∀ ρ0, CW2 P n b y Q (upds ρ0 l) w) : CW2 P n b y Q ρ w := by
  rw [upds_eq ρ l h]; exact hc ρ
theorem turn_mark {W W' : World} {D : Nat} (h : W.heap[D]? = some (.deferred (some []))) (hw : W' = W.putObj D (.deferred none)) : Turn D W W' := by
  subst hw
  exact turn_of (grownBy_putObj' W D _) (fun r e => by cases e; exact ⟨Nat.le_refl _, _, h, rfl⟩)
theorem ret_F {P : Program} {fn : Func} {S : Nat → Prop} {w0 : World} {Φ : Value → World → Prop} {D : Nat} {ρ : Env} {w w' : World} {v : Value} (hm : w.heap[D]? = some (.deferred (some []))) (hw : w' = w.putObj D (.deferred none))
    (hr : (resultsE fn ρ).run P w' = .ok v w') (hK : Kp S w0 w') (h : Φ v w') : postF P fn (Ret S w0 Φ) D .ret ρ w := by
  subst hw; exact ⟨hm, v, hr, v, rfl, hK, h⟩
theorem mark_ext {w w' : World} {D : Nat} (h : w.heap[D]? = some (.deferred (some []))) (hk : Ext w w') : w'.heap[D]? = some (.deferred (some [])) := by
  rw [hk.block D (Array.getElem?_eq_some_iff.1 h).1 (fun x => x)]; exact h
theorem mark_upd {w w' : World} {D b : Nat} {cs : List Value} {T : TypeId} (h : w.heap[D]? = some (.deferred (some []))) (hk : Kp (fun k => k = b) w w') (hB : Box w b cs T) : w'.heap[D]? = some (.deferred (some [])) := by
  rw [hk.block D (Array.getElem?_eq_some_iff.1 h).1 (fun e => by have e1 : D = b := e; subst e1; rw [Box, h] at hB; cases hB)]; exact h
end Go.Proofs.YtcmlklnelipacaaDoor

/- What worlds are said to be (blocks, slices that read as lists), and one law for each operation. Over whatever program. -/
import Derived.Test.YtcmlklnelipacaaDoorLogA
import Derived.Laws.AppendOwn
import Derived.Laws.OwnMore
set_option linter.unusedVariables false
set_option linter.unusedSimpArgs false
namespace Go.Proofs.YtcmlklnelipacaaDoor
open Go.RowKit

/-! ### worlds -/
/-- All blocks are as they were, but for those of which S is so, and new ones. -/
structure Kp (S : Nat → Prop) (w w' : World) : Prop where
  os : w'.os = w.os
  tape : w'.tape = w.tape
  output : w'.output = w.output
  size : w.heap.size ≤ w'.heap.size
  block : ∀ k, k < w.heap.size → ¬ S k → w'.heap[k]? = w.heap[k]?
abbrev Non : Nat → Prop := fun _ => False
abbrev Ext (w w' : World) : Prop := Kp Non w w'
theorem Kp.refl (S : Nat → Prop) (w : World) : Kp S w w := ⟨rfl, rfl, rfl, Nat.le_refl _, fun _ _ _ => rfl⟩
theorem Kp.trans {S : Nat → Prop} {a b c : World} (h : Kp S a b) (k : Kp S b c) : Kp S a c :=
  ⟨k.os.trans h.os, k.tape.trans h.tape, k.output.trans h.output, Nat.le_trans h.size k.size, fun i hi hs => (k.block i (Nat.lt_of_lt_of_le hi h.size) hs).trans (h.block i hi hs)⟩
theorem Kp.mono {S T : Nat → Prop} {a b : World} (h : Kp S a b) (hs : ∀ k, k < a.heap.size → S k → T k) : Kp T a b :=
  ⟨h.os, h.tape, h.output, h.size, fun k hk ht => h.block k hk (fun hc => ht (hs k hk hc))⟩
theorem Kp.ext {S : Nat → Prop} {a b : World} (h : Ext a b) : Kp S a b := h.mono (fun _ _ h => h.elim)
/-- What is written behind a are blocks that are new since a. -/
theorem Kp.later {S T : Nat → Prop} {a b c : World} (h : Kp S a b) (k : Kp T b c) (ht : ∀ i, i < a.heap.size → T i → S i) : Kp S a c :=
  ⟨k.os.trans h.os, k.tape.trans h.tape, k.output.trans h.output, Nat.le_trans h.size k.size, fun i hi hs => (k.block i (Nat.lt_of_lt_of_le hi h.size) (fun hc => hs (ht i hi hc))).trans (h.block i hi hs)⟩
theorem Kp.below {a b : World} (h : Ext a b) : Below a.heap.size a b := ⟨h.os, h.tape, h.output, h.size, fun k hk => h.block k hk (fun x => x)⟩
theorem Kp.of_below {a b : World} (h : Below a.heap.size a b) : Ext a b := ⟨h.os, h.tape, h.output, h.size, fun k hk _ => h.block k hk⟩
theorem Kp.of_grown {a b : World} {row : Option Nat} (h : a.grownBy b row) : Kp (fun k => some k = row) a b := ⟨h.os, h.tape, h.output, h.size, fun k hk hs => h.block k hk hs⟩
theorem Kp.drew {S : Nat → Prop} {a b : World} (h : Kp S a b) : Kp S a { b with drawn := b.drawn + 1 } := ⟨h.os, h.tape, h.output, h.size, h.block⟩
theorem ext_alloc (w : World) (o : Obj) : Ext w { w with heap := w.heap.push o } :=
  ⟨rfl, rfl, rfl, by simp, fun k hk _ => by simp only [Array.getElem?_push]; rw [if_neg (by omega)]⟩

/-- A block of so many cells, none of them frozen. -/
def Box (w : World) (b : Nat) (cs : List Value) (T : TypeId) : Prop := w.heap[b]? = some (.cells cs.toArray T (0, 0))
theorem Box.kp {S : Nat → Prop} {w w' : World} {b : Nat} {cs : List Value} {T : TypeId} (h : Box w b cs T) (k : Kp S w w') (hb : ¬ S b) : Box w' b cs T :=
  (k.block b (Array.getElem?_eq_some_iff.1 h).1 hb).trans h
theorem Box.ext {w w' : World} {b : Nat} {cs : List Value} {T : TypeId} (h : Box w b cs T) (k : Ext w w') : Box w' b cs T := h.kp k (fun x => x)
theorem Box.lt {w : World} {b : Nat} {cs : List Value} {T : TypeId} (h : Box w b cs T) : b < w.heap.size := (Array.getElem?_eq_some_iff.1 h).1
theorem Box.cell {w : World} {b : Nat} {cs : List Value} {T : TypeId} (h : Box w b cs T) (o : Nat) : w.cell? ⟨b, o, none⟩ = cs[o]? := by
  unfold Box at h
  simp [World.cell?, h]
theorem Box.free {w : World} {b : Nat} {cs : List Value} {T : TypeId} (h : Box w b cs T) (o : Nat) : w.frozen? ⟨b, o, none⟩ = false := by
  unfold Box at h
  simp [World.frozen?, h]
theorem Box.ne {w : World} {b b' : Nat} {cs cs' : List Value} {T T' : TypeId} (h : Box w b cs T) (h' : Box w b' cs' T') (hT : T ≠ T') : b ≠ b' := by
  rintro rfl
  unfold Box at h h'
  rw [h] at h'
  simp at h'
  exact hT h'.2

theorem get_take {α : Type} {l : List α} {n j : Nat} {v : α} (h : (l.take n)[j]? = some v) : l[j]? = some v := by
  rw [List.getElem?_take] at h
  split at h
  · exact h
  · cases h
/-- The cells from an address on. -/
def At (w : World) (a : Addr) (cs : List Value) : Prop := ∀ j v, cs[j]? = some v → w.cell? (a.add j) = some v
theorem add_lit (b o j : Nat) : (⟨b, o, none⟩ : Addr).add j = ⟨b, o + j, none⟩ := by
  unfold Addr.add
  split
  · rename_i h; subst h; rfl
  · rfl
theorem Box.at_ {w : World} {b : Nat} {cs : List Value} {T : TypeId} (h : Box w b cs T) (o n : Nat) : At w ⟨b, o, none⟩ ((cs.drop o).take n) := by
  intro j v hj
  rw [add_lit, h.cell]
  have := get_take hj
  simpa using this

/-- A slice that reads as rows of k cells each; its block is one of which F is so. -/
def Rd (F : Nat → Prop) (w : World) (k : Nat) (v : Value) (css : List (List Value)) : Prop :=
  ∃ ao c, v = .slice ao css.length c ∧ css.length ≤ c ∧ (∀ cs ∈ css, cs.length = k) ∧
    (css ≠ [] → ∃ b o, ao = some ⟨b, o, none⟩ ∧ b < w.heap.size ∧ F b ∧ ∀ i cs, css[i]? = some cs → At w ⟨b, o + i * k, none⟩ cs)
theorem At.of_block {w w' : World} {a : Addr} {cs : List Value} (h : At w a cs) (hb : w'.heap[a.block]? = w.heap[a.block]?) : At w' a cs := by
  intro j v hj
  have e : (a.add j).block = a.block := by unfold Addr.add; split <;> rfl
  rw [World.cell?_of_block (w := w) (by rw [e]; exact hb)]
  exact h j v hj
theorem Rd.kp {F S : Nat → Prop} {w w' : World} {k : Nat} {v : Value} {css : List (List Value)} (h : Rd F w k v css) (hk : Kp S w w') (hs : ∀ b, b < w.heap.size → F b → ¬ S b) : Rd F w' k v css := by
  obtain ⟨ao, c, hv, hc, hl, hcs⟩ := h
  refine ⟨ao, c, hv, hc, hl, fun hne => ?_⟩
  obtain ⟨b, o, ha, hb, hF, h⟩ := hcs hne
  exact ⟨b, o, ha, Nat.lt_of_lt_of_le hb hk.size, hF, fun i cs hi => (h i cs hi).of_block (hk.block b hb (hs b hb hF))⟩
theorem Rd.ext {F : Nat → Prop} {w w' : World} {k : Nat} {v : Value} {css : List (List Value)} (h : Rd F w k v css) (hk : Ext w w') : Rd F w' k v css := h.kp hk (fun _ _ _ x => x)
theorem Rd.mono {F G : Nat → Prop} {w : World} {k : Nat} {v : Value} {css : List (List Value)} (h : Rd F w k v css) (hs : ∀ b, b < w.heap.size → F b → G b) : Rd G w k v css := by
  obtain ⟨ao, c, hv, hc, hl, hcs⟩ := h
  refine ⟨ao, c, hv, hc, hl, fun hne => ?_⟩
  obtain ⟨b, o, ha, hb, hF, h⟩ := hcs hne
  exact ⟨b, o, ha, hb, hs b hb hF, h⟩
/-- Its block was there. -/
theorem Rd.old {F : Nat → Prop} {w : World} {k : Nat} {v : Value} {css : List (List Value)} (h : Rd F w k v css) : Rd (fun b => b < w.heap.size) w k v css := h.mono (fun b hb _ => hb)
theorem Rd.nil {F : Nat → Prop} (w : World) (k : Nat) : Rd F w k (.slice none 0 0) [] := ⟨none, 0, rfl, Nat.le_refl _, (fun _ h => nomatch h), fun h => absurd rfl h⟩
theorem Rd.form {F : Nat → Prop} {w : World} {k : Nat} {v : Value} {css : List (List Value)} (h : Rd F w k v css) : ∃ ao c, v = .slice ao css.length c := by
  obtain ⟨ao, c, hv, _⟩ := h; exact ⟨ao, c, hv⟩
theorem own_lt {w : World} {base : Nat} {e : TypeId} {size n : Nat} {v : Value} {xs : List Value} (h : w.ownsRow base e size v n xs) (k : Nat) (hk : some k = v.ownBlock) : base ≤ k ∧ k < w.heap.size ∧ ∃ cur, w.heap[k]? = some (.cells cur e (0, 0)) := by
  rcases h.2 with ⟨rfl, _⟩ | ⟨g, cap, cur, rfl, hb, hh, _⟩
  · simp [Value.ownBlock] at hk
  · have : k = g := by simpa [Value.ownBlock] using hk
    subst this
    exact ⟨hb, (Array.getElem?_eq_some_iff.1 hh).1, cur, hh⟩
theorem own_kp {S : Nat → Prop} {w w' : World} {base : Nat} {e : TypeId} {size n : Nat} {v : Value} {xs : List Value} (h : w.ownsRow base e size v n xs) (hk : Kp S w w') (hs : ∀ b, b < w.heap.size → base ≤ b → ¬ S b) : w'.ownsRow base e size v n xs := by
  obtain ⟨h1, h2⟩ := h
  refine ⟨h1, ?_⟩
  rcases h2 with h2 | ⟨g, cap, cur, hv, hb, hh, r⟩
  · exact .inl h2
  · have hg := (Array.getElem?_eq_some_iff.1 hh).1
    exact .inr ⟨g, cap, cur, hv, hb, (hk.block g hg (hs g hg hb)).trans hh, r⟩
/-- A row of the call's own while a block of another type is written. -/
theorem own_other {w w' : World} {base : Nat} {e T : TypeId} {size n : Nat} {v : Value} {xs : List Value} {b : Nat} {cs : List Value} (h : w.ownsRow base e size v n xs) (hB : Box w b cs T) (hT : T ≠ e) (hk : Kp (fun k => k = b) w w') : w'.ownsRow base e size v n xs := by
  obtain ⟨h1, h2⟩ := h
  refine ⟨h1, ?_⟩
  rcases h2 with h2 | ⟨g, cap, cur, hv, hb, hh, r⟩
  · exact .inl h2
  · have hg := (Array.getElem?_eq_some_iff.1 hh).1
    have hne : g ≠ b := by
      rintro rfl
      unfold Box at hB
      rw [hB] at hh
      simp at hh
      exact hT hh.2
    exact .inr ⟨g, cap, cur, hv, hb, (hk.block g hg hne).trans hh, r⟩
theorem Box.grown {w w' : World} {base : Nat} {e T : TypeId} {size n : Nat} {v : Value} {xs : List Value} {b : Nat} {cs : List Value} (hB : Box w b cs T) (h : w.ownsRow base e size v n xs) (hT : T ≠ e) (hk : Kp (fun k => some k = v.ownBlock) w w') : Box w' b cs T := by
  refine hB.kp hk ?_
  intro hc
  obtain ⟨_, _, cur, hh⟩ := own_lt h b hc
  unfold Box at hB
  rw [hB] at hh
  simp at hh
  exact hT hh.2
/-- Rows of k cells, one behind the other. -/
def rowsOf (k : Nat) (xs : List Value) : Nat → List (List Value)
  | 0 => []
  | n + 1 => xs.take k :: rowsOf k (xs.drop k) n
theorem flat_get (k : Nat) : ∀ (css : List (List Value)) (h : ∀ cs ∈ css, cs.length = k) (i : Nat) (cs : List Value) (hi : css[i]? = some cs) (j : Nat) (v : Value) (hj : cs[j]? = some v), css.flatten[i * k + j]? = some v := by
  intro css
  induction css with
  | nil => intro h i cs hi; simp at hi
  | cons c css ih =>
    intro h i cs hi j v hj
    have hc : c.length = k := h c (by simp)
    cases i with
    | zero =>
      simp at hi
      subst hi
      have hlt : j < c.length := (List.getElem?_eq_some_iff.1 hj).1
      simp only [List.flatten_cons, Nat.zero_mul, Nat.zero_add]
      rw [List.getElem?_append_left hlt]; exact hj
    | succ i =>
      simp only [List.getElem?_cons_succ] at hi
      have := ih (fun cs hc => h cs (by simp [hc])) i cs hi j v hj
      simp only [List.flatten_cons]
      rw [List.getElem?_append_right (by rw [hc, Nat.succ_mul]; omega)]
      have e : (i + 1) * k + j - c.length = i * k + j := by rw [hc, Nat.succ_mul]; omega
      rw [e]; exact this
theorem flat_len (k : Nat) (css : List (List Value)) (h : ∀ cs ∈ css, cs.length = k) : css.flatten.length = css.length * k := by
  induction css with
  | nil => simp
  | cons c css ih => simp [h c (by simp), ih (fun c' hc => h c' (by simp [hc])), Nat.succ_mul]; omega
/-- What the call owns reads. -/
theorem Rd.of_own {w : World} {base : Nat} {e : TypeId} {k : Nat} {v : Value} {css : List (List Value)} (h : w.ownsRow base e k v css.length css.flatten) (hl : ∀ cs ∈ css, cs.length = k) : Rd (fun b => base ≤ b) w k v css := by
  rcases h.2 with ⟨rfl, hn⟩ | ⟨g, cap, cur, rfl, hb, hh, hn, _, hsz, ht⟩
  · have : css = [] := List.eq_nil_of_length_eq_zero hn
    subst this
    exact Rd.nil w k
  · refine ⟨_, _, rfl, hn, hl, fun _ => ⟨g, 0, rfl, (Array.getElem?_eq_some_iff.1 hh).1, hb, fun i cs hi j v hj => ?_⟩⟩
    have h1 := flat_get k css hl i cs hi j v hj
    rw [add_lit]
    have h2 : cur.toList[i * k + j]? = some v := by
      rw [← ht] at h1
      exact get_take h1
    simp only [World.cell?, hh, Nat.zero_add]
    simpa using h2

/-! ### what a function returns -/
def Ret (S : Nat → Prop) (w : World) (Φ : Value → World → Prop) : Ending → World → Prop := fun e w' => ∃ v, e = .returned v ∧ Kp S w w' ∧ Φ v w'
theorem ret_intro {P : Program} {fn : Func} {S : Nat → Prop} {w0 : World} {Φ : Value → World → Prop} {ρ : Env} {w : World} {v : Value}
    (hr : (resultsE fn ρ).run P w = .ok v w) (hk : Kp S w0 w) (h : Φ v w) : postE P fn (Ret S w0 Φ) .ret ρ w := ⟨v, hr, v, rfl, hk, h⟩
theorem ret_introN {P : Program} {fn : Func} {S : Nat → Prop} {w0 : World} {Φ : Value → World → Prop} {ρ : Env} {w : World} {v : Value}
    (hr : (resultsE fn ρ).run P w = .ok v w) (hk : Kp S w0 w) (h : Φ v w) : postE P fn (Ret S w0 Φ) .normal ρ w := ⟨v, hr, v, rfl, hk, h⟩

theorem box_push (w : World) (cs : List Value) (T : TypeId) : Box (w.alloc (.cells cs.toArray T (0, 0))) w.heap.size cs T := by
  show (w.heap.push _)[w.heap.size]? = _
  simp
/-! ### the way on -/
theorem k_tn {N : Env → World → Prop} {Q : Exit → Env → World → Prop} {ρ : Env} {w : World} (h : N ρ w) : thenE N Q .normal ρ w := h
theorem k_te {N : Env → World → Prop} {Q : Exit → Env → World → Prop} {ρ : Env} {w : World} {i : Nat} (h : Q (.exit i) ρ w) : thenE N Q (.exit i) ρ w := h
theorem k_tr {N : Env → World → Prop} {Q : Exit → Env → World → Prop} {ρ : Env} {w : World} (h : Q .ret ρ w) : thenE N Q .ret ρ w := h
theorem k_bn {Q : Exit → Env → World → Prop} {ρ : Env} {w : World} {i : Nat} (h : Q .normal ρ w) : inBlockE i Q .normal ρ w := h
theorem k_br {Q : Exit → Env → World → Prop} {ρ : Env} {w : World} {i : Nat} (h : Q .ret ρ w) : inBlockE i Q .ret ρ w := h
theorem k_bh {Q : Exit → Env → World → Prop} {ρ : Env} {w : World} {i : Nat} (h : Q .normal ρ w) : inBlockE i Q (.exit i) ρ w := by simp only [inBlockE, if_true]; exact h
theorem k_bm {Q : Exit → Env → World → Prop} {ρ : Env} {w : World} {i j : Nat} (hij : j ≠ i) (h : Q (.exit j) ρ w) : inBlockE i Q (.exit j) ρ w := by simp only [inBlockE, hij, if_false]; exact h
def resOk (P : Program) (w : World) (ρ : Env) : List ResultVar → List Value → Prop
  | [], [] => True
  | .tmp t :: r, v :: vs => ρ t = v ∧ resOk P w ρ r vs
  | .cell a T :: r, v :: vs => (∃ p, ρ a = .pointer (some p) ∧ (loadVar T p).run P w = .ok v w) ∧ resOk P w ρ r vs
  | _, _ => False
def tupleOf : List Value → Value
  | [v] => v
  | vs => .tuple vs.toArray
theorem run_mapM {P : Program} {w : World} {ρ : Env} : ∀ (l : List ResultVar) (vs : List Value), resOk P w ρ l vs → (l.mapM (resGet ρ)).run P w = .ok vs w
  | [], [], _ => by simp
  | .tmp t :: r, v :: vs, h => by
    have ih := run_mapM r vs h.2
    simp only [List.mapM_cons, Sem.run_bind, resGet, h.1]
    simp [ih]
  | .cell a T :: r, v :: vs, h => by
    have ih := run_mapM r vs h.2
    obtain ⟨⟨p, hp, hl⟩, _⟩ := h
    simp only [List.mapM_cons, Sem.run_bind, resGet, hp]
    simp [asAddr, hl, ih]
theorem res_ok {P : Program} {fn : Func} {w : World} {ρ : Env} {l : List ResultVar} {vs : List Value} (hl : fn.results = l.toArray) (h : resOk P w ρ l vs) : (resultsE fn ρ).run P w = .ok (tupleOf vs) w := by
  have hm := run_mapM l vs h
  unfold resultsE
  rw [hl]
  simp only [List.mapM_toArray, Sem.run_bind, Sem.run_map, hm, Result.andThen]
  match vs with
  | [] => rfl
  | [v] => rfl
  | v :: u :: vs => simp [tupleOf]
/-! ### operations -/
section ops
variable {P : Program} {ρ : Env} {w : World} {K : Value → World → Prop} {dst : Option Tmp} {ty : TypeId} {pos : String} {aft : Array Edge} {gd : Option (Nat × Bool)}
theorem rl {ops : Array Oper} {K : Env → World → Prop} {rest : List Oper} {d : Nat} {op : Op} (h : OpK P ⟨some d, op, ty, pos, aft, gd⟩ ρ w (fun v w' => RL P ops K rest (upd ρ d v) w')) (hw : Region.wanted ⟨some d, op, ty, pos, aft, gd⟩ (yieldE ops ρ) = true) : RL P ops K (⟨some d, op, ty, pos, aft, gd⟩ :: rest) ρ w := by
  unfold RL; rw [if_pos hw]; exact h
theorem rl0 {ops : Array Oper} {K : Env → World → Prop} {rest : List Oper} {op : Op} (h : OpK P ⟨none, op, ty, pos, aft, gd⟩ ρ w (fun _ w' => RL P ops K rest ρ w')) (hw : Region.wanted ⟨none, op, ty, pos, aft, gd⟩ (yieldE ops ρ) = true) : RL P ops K (⟨none, op, ty, pos, aft, gd⟩ :: rest) ρ w := by
  unfold RL; rw [if_pos hw]; exact h
theorem rlo {ops : Array Oper} {K : Env → World → Prop} {rest : List Oper} {d : Nat} {op : Op} (h : RL P ops K rest (upd ρ d undef) w) (hw : Region.wanted ⟨some d, op, ty, pos, aft, gd⟩ (yieldE ops ρ) = false) : RL P ops K (⟨some d, op, ty, pos, aft, gd⟩ :: rest) ρ w := by
  unfold RL; rw [if_neg (by rw [hw]; decide)]; exact h
theorem rlo0 {ops : Array Oper} {K : Env → World → Prop} {rest : List Oper} {op : Op} (h : RL P ops K rest ρ w) (hw : Region.wanted ⟨none, op, ty, pos, aft, gd⟩ (yieldE ops ρ) = false) : RL P ops K (⟨none, op, ty, pos, aft, gd⟩ :: rest) ρ w := by
  unfold RL; rw [if_neg (by rw [hw]; decide)]; exact h
theorem rl_nil {ops : Array Oper} {K : Env → World → Prop} (h : K ρ w) : RL P ops K [] ρ w := h
theorem o_pure {o : Oper} {v : Value} (h : (execOp (ev ρ) o).run P w = .ok (.value v) w) (k : K v w) : OpK P o ρ w K := by unfold OpK; rw [h]; exact k
theorem o_move {x : Operand} {v : Value} (h : ev ρ x = v) (k : K v w) : OpK P ⟨dst, .move x, ty, pos, aft, gd⟩ ρ w K := by subst h; exact k
theorem o_assign {x : Operand} {v : Value} (h : ev ρ x = v) (k : K v w) : OpK P ⟨dst, .assign x, ty, pos, aft, gd⟩ ρ w K := by subst h; exact k
theorem o_pick {c a b : Operand} {t : Bool} (hc : ev ρ c = .bool t) (k : K (if t then ev ρ a else ev ρ b) w) : OpK P ⟨dst, .pick c a b, ty, pos, aft, gd⟩ ρ w K := by
  simp [OpK, execOp, hc, asBool, OpU]; exact k
/-! integers -/
theorem o_int {op : BinOp} {t t' : TypeId} {x y : Operand} {k : IntKind} {a b : Int} {v : Value} (hx : ev ρ x = .int k a) (hy : ev ρ y = .int k b)
    (h : (binOp op t (.int k a) (.int k b)).run P w = .ok v w) (hk : K v w) : OpK P ⟨dst, .binOp op t x y t', ty, pos, aft, gd⟩ ρ w K := by
  have hg : (eqGuard op t x y (.int k a) (.int k b)).run P w = .ok () w := by
    unfold eqGuard
    cases op <;> rfl
  simp only [OpK, execOp, hx, hy]
  simp [hg, h, OpU, Result.andThen]; exact hk
theorem wrap_in {k : IntKind} {n : Int} (h0 : k.min ≤ n) (h1 : n ≤ k.max) : k.wrap n = n := by
  cases k <;> simp [IntKind.wrap, IntKind.min, IntKind.max, IntKind.bits, IntKind.signed] at * <;> omega
theorem wrap_i64 {n : Int} (h0 : -9223372036854775808 ≤ n) (h1 : n ≤ 9223372036854775807) : IntKind.i64.wrap n = n := wrap_in h0 h1
theorem o_add64 {t t' : TypeId} {x y : Operand} {a b : Int} (hx : ev ρ x = .int .i64 a) (hy : ev ρ y = .int .i64 b) (h0 : -9223372036854775808 ≤ a + b) (h1 : a + b ≤ 9223372036854775807)
    (hk : K (.int .i64 (a + b)) w) : OpK P ⟨dst, .binOp .add t x y t', ty, pos, aft, gd⟩ ρ w K := by
  refine o_int hx hy (v := .int .i64 (a + b)) ?_ hk
  show (Op.intArith .add .i64 a b).run P w = _
  simp [Op.intArith, wrap_i64 h0 h1]
theorem o_sub64 {t t' : TypeId} {x y : Operand} {a b : Int} (hx : ev ρ x = .int .i64 a) (hy : ev ρ y = .int .i64 b) (h0 : -9223372036854775808 ≤ a - b) (h1 : a - b ≤ 9223372036854775807)
    (hk : K (.int .i64 (a - b)) w) : OpK P ⟨dst, .binOp .sub t x y t', ty, pos, aft, gd⟩ ρ w K := by
  refine o_int hx hy (v := .int .i64 (a - b)) ?_ hk
  show (Op.intArith .sub .i64 a b).run P w = _
  simp [Op.intArith, wrap_i64 h0 h1]
theorem o_mul64 {t t' : TypeId} {x y : Operand} {a b : Int} (hx : ev ρ x = .int .i64 a) (hy : ev ρ y = .int .i64 b) (h0 : -9223372036854775808 ≤ a * b) (h1 : a * b ≤ 9223372036854775807)
    (hk : K (.int .i64 (a * b)) w) : OpK P ⟨dst, .binOp .mul t x y t', ty, pos, aft, gd⟩ ρ w K := by
  refine o_int hx hy (v := .int .i64 (a * b)) ?_ hk
  show (Op.intArith .mul .i64 a b).run P w = _
  simp [Op.intArith, wrap_i64 h0 h1]
theorem o_lss {t t' : TypeId} {x y : Operand} {k : IntKind} {a b : Int} (hx : ev ρ x = .int k a) (hy : ev ρ y = .int k b) (hk : K (.bool (decide (a < b))) w) : OpK P ⟨dst, .binOp .lss t x y t', ty, pos, aft, gd⟩ ρ w K :=
  o_int hx hy (by cases k <;> rfl) hk
theorem o_leq {t t' : TypeId} {x y : Operand} {k : IntKind} {a b : Int} (hx : ev ρ x = .int k a) (hy : ev ρ y = .int k b) (hk : K (.bool (decide (a ≤ b))) w) : OpK P ⟨dst, .binOp .leq t x y t', ty, pos, aft, gd⟩ ρ w K :=
  o_int hx hy (by cases k <;> rfl) hk
theorem o_gtr {t t' : TypeId} {x y : Operand} {k : IntKind} {a b : Int} (hx : ev ρ x = .int k a) (hy : ev ρ y = .int k b) (hk : K (.bool (decide (b < a))) w) : OpK P ⟨dst, .binOp .gtr t x y t', ty, pos, aft, gd⟩ ρ w K :=
  o_int hx hy (by cases k <;> rfl) hk
theorem o_geq {t t' : TypeId} {x y : Operand} {k : IntKind} {a b : Int} (hx : ev ρ x = .int k a) (hy : ev ρ y = .int k b) (hk : K (.bool (decide (b ≤ a))) w) : OpK P ⟨dst, .binOp .geq t x y t', ty, pos, aft, gd⟩ ρ w K :=
  o_int hx hy (by cases k <;> rfl) hk
theorem o_eql {t t' : TypeId} {x y : Operand} {k : IntKind} {a b : Int} (hx : ev ρ x = .int k a) (hy : ev ρ y = .int k b) (hk : K (.bool (decide (a = b))) w) : OpK P ⟨dst, .binOp .eql t x y t', ty, pos, aft, gd⟩ ρ w K :=
  o_int hx hy (v := .bool (decide (a = b))) (by
    have : (binOp .eql t (.int k a) (.int k b)).run P w = .ok (.bool (a == b)) w := by cases k <;> rfl
    rw [this]; rfl) hk
theorem o_neq {t t' : TypeId} {x y : Operand} {k : IntKind} {a b : Int} (hx : ev ρ x = .int k a) (hy : ev ρ y = .int k b) (hk : K (.bool (decide (a ≠ b))) w) : OpK P ⟨dst, .binOp .neq t x y t', ty, pos, aft, gd⟩ ρ w K :=
  o_int hx hy (v := .bool (decide (a ≠ b))) (by
    have : (binOp .neq t (.int k a) (.int k b)).run P w = .ok (.bool (a != b)) w := by cases k <;> rfl
    rw [this]; congr 2; by_cases e : a = b <;> simp [e, bne]) hk
theorem o_cmpB {op : BinOp} {t t' : TypeId} {x y : Operand} {q : Prop} [Decidable q] {K' : Value → World → Prop} (h : ∀ K : Value → World → Prop, K (.bool (decide q)) w → OpK P ⟨dst, .binOp op t x y t', ty, pos, aft, gd⟩ ρ w K)
    (hk : ∀ c : Bool, (c = true ↔ q) → K' (.bool c) w) : OpK P ⟨dst, .binOp op t x y t', ty, pos, aft, gd⟩ ρ w K' := h K' (hk _ (by simp))
theorem o_not {t : TypeId} {x : Operand} {b : Bool} (hx : ev ρ x = .bool b) (hk : K (.bool (!b)) w) : OpK P ⟨dst, .unOp .not t x, ty, pos, aft, gd⟩ ρ w K := by
  simp only [OpK, execOp, hx]
  simp [Op.unary, OpU]; exact hk
theorem o_len {t : TypeId} {e : TypeId} {x : Operand} {ao : Option Addr} {m c : Nat} (hx : ev ρ x = .slice ao m c) (ht : P.underlying t = some (.slice e)) (hk : K (.int .i64 m) w) :
    OpK P ⟨dst, .call ⟨.builtin .len, #[x], #[t]⟩, ty, pos, aft, gd⟩ ρ w K := by
  have hu : (underlying t).run P w = .ok (.slice e) w := by simp [underlying, ht]
  simp only [OpK, execOp, resolve]
  simp [hx, invoke, builtin, Builtin.len_, hu, OpU, goInt]; exact hk
/-! memory -/
structure TyS (P : Program) (t : TypeId) : Prop where
  agg : ∀ w, (isAgg t).run P w = .ok false w
  size : ∀ w, (sizeOf t).run P w = .ok 1 w
structure TyA (P : Program) (t : TypeId) (n : Nat) : Prop where
  agg : ∀ w, (isAgg t).run P w = .ok true w
  size : ∀ w, (sizeOf t).run P w = .ok n w
theorem run_loadCellsFrom (P : Program) {a : Addr} {w : World} : ∀ (cs : List Value) (i : Nat) (acc : Array Value), (∀ j v, cs[j]? = some v → w.cell? (a.add (i + j)) = some v) →
    (loadCellsFrom a i cs.length acc).run P w = .ok (acc ++ cs.toArray) w
  | [], i, acc, _ => by simp [loadCellsFrom]
  | c :: cs, i, acc, h => by
    have h0 := h 0 c (by simp)
    simp only [List.length_cons, loadCellsFrom]
    have ih := run_loadCellsFrom P cs (i + 1) (acc.push c) (fun j v hj => by
      have := h (j + 1) v (by simpa using hj)
      have e : i + 1 + j = i + (j + 1) := by omega
      rw [e]; exact this)
    rw [Nat.add_zero] at h0
    have hl : (load (a.add i)).run P w = .ok c w := by simp [load, Sem.run, h0]
    rw [Sem.run_bind, hl]
    simp only [Result.andThen]
    rw [ih]
    simp
theorem run_loadS {t : TypeId} {a : Addr} {v : Value} (ht : TyS P t) (hc : w.cell? a = some v) : (loadVar t a).run P w = .ok v w := by
  simp [loadVar, ht.agg, load, Sem.run, hc]
theorem run_loadA {t : TypeId} {n : Nat} {a : Addr} {cs : List Value} (ht : TyA P t n) (hn : cs.length = n) (hc : At w a cs) : (loadVar t a).run P w = .ok (.agg cs.toArray) w := by
  have := run_loadCellsFrom P (w := w) (a := a) cs 0 #[] (fun j v hj => by rw [Nat.zero_add]; exact hc j v hj)
  rw [hn] at this
  simp [loadVar, ht.agg, ht.size, loadCells, this]
theorem o_load {t : TypeId} {x : Operand} {a : Addr} {v : Value} (hx : ev ρ x = .pointer (some a)) (ht : TyS P t) (hc : w.cell? a = some v) (hk : K v w) : OpK P ⟨dst, .load t x, ty, pos, aft, gd⟩ ρ w K := by
  have h := run_loadS ht hc
  simp only [OpK, execOp, hx]
  simp [Instr.loadAt, Instr.sureAddr, h, OpU]; exact hk
theorem o_loadA {t : TypeId} {n : Nat} {x : Operand} {a : Addr} {cs : List Value} (hx : ev ρ x = .pointer (some a)) (ht : TyA P t n) (hn : cs.length = n) (hc : At w a cs) (hk : K (.agg cs.toArray) w) : OpK P ⟨dst, .load t x, ty, pos, aft, gd⟩ ρ w K := by
  have h := run_loadA ht hn hc
  simp only [OpK, execOp, hx]
  simp [Instr.loadAt, Instr.sureAddr, h, OpU]; exact hk
theorem o_loadB {t T : TypeId} {x : Operand} {b o : Nat} {cs : List Value} {v : Value} (hx : ev ρ x = .pointer (some ⟨b, o, none⟩)) (hB : Box w b cs T) (ht : TyS P t) (hv : cs[o]? = some v) (hk : K v w) : OpK P ⟨dst, .load t x, ty, pos, aft, gd⟩ ρ w K :=
  o_load hx ht ((hB.cell o).trans hv) hk
theorem o_loadBA {t T : TypeId} {n : Nat} {x : Operand} {b o : Nat} {cs ds : List Value} (hx : ev ρ x = .pointer (some ⟨b, o, none⟩)) (hB : Box w b cs T) (ht : TyA P t n) (hd : (cs.drop o).take n = ds) (hn : ds.length = n) (hk : K (.agg ds.toArray) w) : OpK P ⟨dst, .load t x, ty, pos, aft, gd⟩ ρ w K := by
  subst hd
  exact o_loadA hx ht hn (hB.at_ o n) hk
def FieldAt (P : Program) (s : TypeId) (f off : Nat) : Prop := ∀ (a : Addr) (w : World), (Instr.fieldAt s (.pointer (some a)) f).run P w = .ok (.pointer (some (a.add off))) w
theorem o_field {s : TypeId} {x : Operand} {f off b o : Nat} (hx : ev ρ x = .pointer (some ⟨b, o, none⟩)) (hF : FieldAt P s f off) (hk : K (.pointer (some ⟨b, o + off, none⟩)) w) : OpK P ⟨dst, .fieldAddr s x f, ty, pos, aft, gd⟩ ρ w K := by
  have h := hF ⟨b, o, none⟩ w
  rw [add_lit] at h
  simp only [OpK, execOp, hx]
  simp [h, OpU]; exact hk
theorem o_alloc {t : TypeId} {z : Value} (hz : ∀ w, (zeroValue t).run P w = .ok z w) (hk : ∀ b w', w.heap.size ≤ b → w'.heap.size = w.heap.size + 1 → Ext w w' → Box w' b z.cells.toList t → K (.pointer (some ⟨b, 0, none⟩)) w') :
    OpK P ⟨dst, .alloc t, ty, pos, aft, gd⟩ ρ w K := by
  simp only [OpK, execOp]
  simp [Instr.alloc, hz, newVar, newRow, newObj, Sem.run, OpU]
  refine hk w.heap.size _ (Nat.le_refl _) (by simp) (ext_alloc w _) ?_
  exact box_push w _ _
theorem o_box {t : TypeId} {x : Operand} {v : Value} (hx : ev ρ x = v) (hk : ∀ b w', w.heap.size ≤ b → w'.heap.size = w.heap.size + 1 → Ext w w' → Box w' b v.cells.toList t → K (.pointer (some ⟨b, 0, none⟩)) w') :
    OpK P ⟨dst, .box t x, ty, pos, aft, gd⟩ ρ w K := by
  simp only [OpK, execOp, hx]
  simp [Instr.box, newVar, newRow, newObj, Sem.run, OpU]
  refine hk w.heap.size _ (Nat.le_refl _) (by simp) (ext_alloc w _) ?_
  exact box_push w _ _
end ops
end Go.Proofs.YtcmlklnelipacaaDoor

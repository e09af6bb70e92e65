/- Regions that draw their order: one look at each operation serves every order, where what is known of a value abides what the others do. Over whatever program. -/
import Derived.Test.YtcmlklnelipacaaDoorLogC
import Derived.Still
set_option linter.unusedVariables false
set_option linter.unusedSimpArgs false
namespace Go.Proofs.YtcmlklnelipacaaDoor
open Go.RowKit

/-- What is known of an operation's value: just which one it is, or a fact that abides. -/
inductive RS where
  | val (c : Value)
  | fact (R : Value → World → Prop)
def RS.sat : RS → Value → World → Prop
  | .val c, v, _ => v = c
  | .fact R, v, w => R v w
def RS.of : RS → Value → Value
  | .val c, _ => c
  | .fact _, v => v
def RS.known : RS → Value → World → Prop
  | .val _, _, _ => True
  | .fact R, v, w => R v w
def RS.up : RS → Prop
  | .val _ => True
  | .fact R => ∀ v w w', R v w → Ext w w' → R v w'
theorem RS.sat_of {s : RS} {v : Value} {w : World} (h : s.sat v w) : s.of v = v := by cases s <;> first | exact h.symm | rfl
theorem RS.sat_known {s : RS} {v : Value} {w : World} (h : s.sat v w) : s.known v w := by cases s <;> first | trivial | exact h
theorem RS.sat_up {s : RS} (hu : s.up) {v : Value} {w w' : World} (h : s.sat v w) (k : Ext w w') : s.sat v w' := by
  cases s with
  | val c => exact h
  | fact R => exact hu v w w' h k

def dstAt (l : List Oper) (j : Nat) : Option Tmp := (l[j]?).bind (·.dst)
def rsAt (rs : List RS) (j : Nat) : RS := rs.getD j (.val undef)
def bAt (bs : List (List Nat)) (k : Nat) : List Nat := bs.getD k []
/-- The environment behind some operations. -/
def envB (ρ : Env) (l : List Oper) (rs : List RS) (vs : Nat → Value) : List Nat → Env
  | [] => ρ
  | j :: b => updO (envB ρ l rs vs b) (dstAt l j) ((rsAt rs j).of (vs j))
def knownB (rs : List RS) (vs : Nat → Value) (w : World) : List Nat → Prop
  | [] => True
  | j :: b => (rsAt rs j).known (vs j) w ∧ knownB rs vs w b
def OblOp (P : Program) (ops : Array Oper) (o : Oper) (ρ : Env) (w : World) (s : RS) : Prop :=
  if Region.wanted o (yieldE ops ρ) then OpK P o ρ w (fun v w' => Ext w w' ∧ s.sat v w') else s.sat undef w
/-- What is asked of operation k. -/
def Obl (P : Program) (l : List Oper) (rs : List RS) (bs : List (List Nat)) (ρ : Env) (w0 : World) (k : Nat) : Prop :=
  ∀ w vs, Ext w0 w → knownB rs vs w (bAt bs k) → match l[k]? with
    | some o => OblOp P l.toArray o (envB ρ l rs vs (bAt bs k)) w (rsAt rs k)
    | none => True
def OblAll (P : Program) (l : List Oper) (rs : List RS) (bs : List (List Nat)) (ρ : Env) (w0 : World) : Nat → Prop
  | 0 => True
  | k + 1 => OblAll P l rs bs ρ w0 k ∧ Obl P l rs bs ρ w0 k
theorem OblAll.at {P : Program} {l : List Oper} {rs : List RS} {bs : List (List Nat)} {ρ : Env} {w0 : World} : ∀ {p : Nat}, OblAll P l rs bs ρ w0 p → ∀ k, k < p → Obl P l rs bs ρ w0 k
  | 0, _, k, hk => by omega
  | p + 1, h, k, hk => by
    by_cases e : k = p
    · subst e; exact h.2
    · exact OblAll.at h.1 k (by omega)

def onsOf (o : Oper) : List Nat := (o.after.toList.filter (Region.binds .any)).map (·.on)
/-- What is looked at of a region's text. -/
def okDraw (n : Nat) (l : List Oper) (bs : List (List Nat)) (p : Nat) : Bool :=
  let N := l.length
  decide (p ≤ N) && l.all (dstOk n) && Region.noSelect l.toArray &&
  ((List.range N).all fun k =>
    ((bAt bs k).all fun j => decide (j < k) && (match l[k]? with | some o => (onsOf o).any fun e => e == j || (bAt bs e).contains j | none => false)) &&
    (match l[k]? with | some o => (onsOf o).all (fun e => decide (e < k)) | none => true) &&
    (if k < p then
      ((List.range p).all fun j =>
        (match dstAt l j with
         | some d => (match l[k]? with | some o => !(o.looksAt l.toArray).contains d || (bAt bs k).contains j || (bAt bs j).contains k || j == k | none => true) && (j == k || dstAt l k != some d)
         | none => true))
     else (List.range k).all fun j => (bAt bs k).contains j))

structure OkDraw (n : Nat) (l : List Oper) (bs : List (List Nat)) (p : Nat) : Prop where
  le : p ≤ l.length
  dst : l.all (dstOk n) = true
  sel : Region.noSelect l.toArray = true
  blt : ∀ k, k < l.length → ∀ j ∈ bAt bs k, j < k
  bre : ∀ k o, l[k]? = some o → ∀ j ∈ bAt bs k, ∃ e ∈ onsOf o, e = j ∨ j ∈ bAt bs e
  ons : ∀ k o, l[k]? = some o → ∀ e ∈ onsOf o, e < k
  look : ∀ k o, l[k]? = some o → k < p → ∀ j, j < p → ∀ d, dstAt l j = some d → d ∈ o.looksAt l.toArray → j ∈ bAt bs k ∨ k ∈ bAt bs j ∨ j = k
  uniq : ∀ k, k < p → ∀ j, j < p → ∀ d, dstAt l j = some d → dstAt l k = some d → j = k
  tail : ∀ k, k < l.length → p ≤ k → ∀ j, j < k → j ∈ bAt bs k
theorem okDraw_spec {n : Nat} {l : List Oper} {bs : List (List Nat)} {p : Nat} (h : okDraw n l bs p = true) : OkDraw n l bs p := by
  unfold okDraw at h
  simp only [Bool.and_eq_true, decide_eq_true_eq, List.all_eq_true, List.mem_range] at h
  obtain ⟨⟨⟨h1, h2⟩, h3⟩, h4⟩ := h
  have lt : ∀ {k : Nat} {o : Oper}, l[k]? = some o → k < l.length := fun hk => (List.getElem?_eq_some_iff.1 hk).1
  refine ⟨h1, List.all_eq_true.2 h2, h3, ?_, ?_, ?_, ?_, ?_, ?_⟩
  · intro k hk j hj
    exact ((h4 k hk).1.1 j hj).1
  · intro k o ho j hj
    have := ((h4 k (lt ho)).1.1 j hj).2
    simp only [ho, List.any_eq_true, Bool.or_eq_true, beq_iff_eq, List.contains_iff_mem] at this
    exact this
  · intro k o ho e he
    have := (h4 k (lt ho)).1.2
    simp only [ho, List.all_eq_true, decide_eq_true_eq] at this
    exact this e he
  · intro k o ho hk j hj d hd hm
    have := (h4 k (lt ho)).2
    rw [if_pos hk] at this
    simp only [List.all_eq_true, List.mem_range] at this
    have := this j hj
    simp only [hd, ho, Bool.and_eq_true, Bool.or_eq_true, Bool.not_eq_true', List.contains_iff_mem, beq_iff_eq] at this
    rcases this.1 with ((h5 | h5) | h5) | h5
    · exact absurd hm (by simpa using h5)
    · exact .inl h5
    · exact .inr (.inl h5)
    · exact .inr (.inr h5)
  · intro k hk j hj d hd hd'
    have := (h4 k (Nat.lt_of_lt_of_le hk h1)).2
    rw [if_pos hk] at this
    simp only [List.all_eq_true, List.mem_range] at this
    have := this j hj
    simp only [hd, Bool.and_eq_true, Bool.or_eq_true, beq_iff_eq, bne_iff_ne, ne_eq] at this
    rcases this.2 with h5 | h5
    · exact h5
    · exact absurd hd' h5
  · intro k hk hp j hj
    have := (h4 k hk).2
    rw [if_neg (by omega)] at this
    simp only [List.all_eq_true, List.mem_range, List.contains_iff_mem] at this
    exact this j hj

def unl (L : Array Bool) : Nat → Nat
  | 0 => 0
  | m + 1 => unl L m + (if L.getD m true then 0 else 1)
theorem unl_set {L : Array Bool} {i : Nat} : ∀ m, unl (L.setIfInBounds i true) m + (if i < m ∧ L.getD i true = false then 1 else 0) = unl L m
  | 0 => by simp [unl]
  | m + 1 => by
    have ih := unl_set (L := L) (i := i) m
    simp only [unl]
    by_cases e : i = m
    · subst e
      have e1 : (L.setIfInBounds i true).getD i true = true := by
        by_cases hlt : i < L.size
        · simp [hlt]
        · simp [hlt]
      rw [e1]
      by_cases hc : L.getD i true = true
      · rw [hc] at ih ⊢; simp at ih ⊢; exact ih
      · have hc' : L.getD i true = false := by simpa using hc
        rw [hc'] at ih ⊢; simp at ih ⊢; exact ih
    · rw [getD_set_ne true e]
      have e2 : (i < m + 1 ∧ L.getD i true = false) ↔ (i < m ∧ L.getD i true = false) := by constructor <;> (rintro ⟨a, b⟩; exact ⟨by omega, b⟩)
      simp only [e2]
      omega
theorem unl_zero {L : Array Bool} : ∀ m, unl L m = 0 → ∀ j, j < m → L.getD j true = true
  | 0, _, j, hj => by omega
  | m + 1, h, j, hj => by
    simp only [unl] at h
    by_cases e : j = m
    · subst e
      by_cases hc : L.getD j true = true
      · exact hc
      · rw [if_neg hc] at h; omega
    · exact unl_zero m (by omega) j (by omega)

theorem getD_true_false {L : Array Bool} {j : Nat} (hj : j < L.size) : L.getD j true = L.getD j false := by simp [hj]

section
variable {P : Program} {n : Cx} {l : List Oper} {rs : List RS} {bs : List (List Nat)} {p : Nat} {ρ : Env} {w0 : World} {K : Env → World → Prop} {Q : Exit → Env → World → Prop}

theorem envB_miss {vs : Nat → Value} {t : Nat} : ∀ (b : List Nat), (∀ j ∈ b, dstAt l j ≠ some t) → envB ρ l rs vs b t = ρ t
  | [], _ => rfl
  | j :: b, h => by
    have h0 := h j (by simp)
    have ih := envB_miss (vs := vs) b (fun i hi => h i (by simp [hi]))
    unfold envB
    cases hd : dstAt l j with
    | none => exact ih
    | some d =>
      have : t ≠ d := fun e => h0 (by rw [hd, e])
      show upd _ d _ t = _
      rw [upd_ne _ _ this]; exact ih
theorem envB_hit {vs : Nat → Value} {t j : Nat} : ∀ (b : List Nat), j ∈ b → dstAt l j = some t → (∀ i ∈ b, dstAt l i = some t → i = j) → envB ρ l rs vs b t = (rsAt rs j).of (vs j)
  | [], h, _, _ => by cases h
  | i :: b, h, hd, hu => by
    unfold envB
    by_cases e : dstAt l i = some t
    · have := hu i (by simp) e
      subst this
      rw [e]
      exact upd_at _ _ _
    · have hj : j ∈ b := by
        rcases List.mem_cons.1 h with rfl | h
        · exact absurd hd e
        · exact h
      have ih := envB_hit (vs := vs) b hj hd (fun i hi => hu i (by simp [hi]))
      cases hdi : dstAt l i with
      | none => exact ih
      | some d =>
        have : t ≠ d := fun h' => e (by rw [hdi, h'])
        show upd _ d _ t = _
        rw [upd_ne _ _ this]; exact ih
theorem knownB_of {vs : Nat → Value} {w : World} : ∀ (b : List Nat), (∀ j ∈ b, (rsAt rs j).sat (vs j) w) → knownB rs vs w b
  | [], _ => trivial
  | j :: b, h => ⟨RS.sat_known (h j (by simp)), knownB_of b (fun i hi => h i (by simp [hi]))⟩

theorem ev_congr {o : Oper} {ρ ρ' : Env} (h : ∀ t ∈ o.looksAt l.toArray, ρ t = ρ' t) (hs : ∀ cs b, o.op ≠ .select cs b) : execOp (ev ρ) o = execOp (ev ρ') o :=
  execOp_congr o hs fun x hx => by
    cases x with
    | tmp t => exact h t (List.mem_append_left _ (List.mem_filterMap.2 ⟨.tmp t, by simpa using hx, rfl⟩))
    | _ => rfl
theorem wanted_congrE {o : Oper} {ρ ρ' : Env} (h : ∀ t ∈ o.looksAt l.toArray, ρ t = ρ' t) : Region.wanted o (yieldE l.toArray ρ) = Region.wanted o (yieldE l.toArray ρ') := by
  unfold Region.wanted
  cases hg : o.guard with
  | none => rfl
  | some g =>
    obtain ⟨j, b⟩ := g
    have e : yieldE l.toArray ρ j = yieldE l.toArray ρ' j := by
      unfold yieldE
      cases hd : (l.toArray[j]?).bind (·.dst) with
      | none => rfl
      | some d =>
        have : ρ d = ρ' d := h d (List.mem_append_right _ (by simp only [hg, hd]; simp))
        simp only [this]
    simp only [e]

/-- The state while the first p operations are being carried out. -/
structure Inv1 (l : List Oper) (rs : List RS) (bs : List (List Nat)) (p : Nat) (n : Cx) (ρ : Env) (w0 : World) (L : Array Bool) (a : Act) (w : World) : Prop where
  sz : L.size = l.length
  ts : a.tmps.size = n.size
  ds : a.defers = n.ds
  cl : ∀ m, m < l.length → L.getD m false = true → ∀ j ∈ bAt bs m, L.getD j false = true
  un : ∀ k, k < l.length → p ≤ k → L.getD k false = false
  kp : Ext w0 w
  ex : ∃ vs : Nat → Value, (∀ j, j < p → L.getD j false = true → (rsAt rs j).sat (vs j) w) ∧ (∀ j, j < p → L.getD j false = true → ∀ d, dstAt l j = some d → envOf a d = vs j) ∧
    (∀ t, (∀ j, j < p → L.getD j false = true → dstAt l j ≠ some t) → envOf a t = ρ t)
/-- The state behind them. -/
structure Inv2 (P : Program) (l : List Oper) (n : Cx) (K : Env → World → Prop) (m : Nat) (L : Array Bool) (a : Act) (w : World) : Prop where
  sz : L.size = l.length
  ts : a.tmps.size = n.size
  ds : a.defers = n.ds
  up : ∀ j, j < l.length → (L.getD j false = true ↔ j < m)
  rl : RL P l.toArray K (l.drop m) (envOf a) w

theorem ready_all (hok : OkDraw n.size l bs p) {L : Array Bool} (hsz : L.size = l.length) (h : Region.ready .any l.toArray L = []) : ∀ j, j < l.length → L.getD j false = true := by
  intro j
  induction j using Nat.strongRecOn with
  | _ j ih =>
    intro hj
    by_cases hc : L.getD j false = true
    · exact hc
    · exfalso
      have ho : l.toArray[j]? = some l[j] := by simp [hj]
      have hm : j ∈ Region.ready .any l.toArray L := by
        rw [mem_ready]
        refine ⟨by rw [getD_true_false (by omega)]; simpa using hc, _, ho, fun e he hb => ?_⟩
        have hon : e.on ∈ onsOf l[j] := List.mem_map.2 ⟨e, List.mem_filter.2 ⟨by simpa using he, hb⟩, rfl⟩
        have hlt := hok.ons j l[j] (by simp [hj]) e.on hon
        exact ih e.on hlt (by omega)
      rw [h] at hm
      cases hm

theorem ready_b (hok : OkDraw n.size l bs p) {L : Array Bool} {i : Nat} (hcl : ∀ m, m < l.length → L.getD m false = true → ∀ j ∈ bAt bs m, L.getD j false = true) (h : i ∈ Region.ready .any l.toArray L) :
    ∃ o, l[i]? = some o ∧ i < l.length ∧ L.getD i false = false ∧ L.getD i true = false ∧ ∀ j ∈ bAt bs i, L.getD j false = true := by
  obtain ⟨h0, o, ho, hall⟩ := mem_ready.1 h
  have ho' : l[i]? = some o := by simpa using ho
  have hi := (List.getElem?_eq_some_iff.1 ho').1
  have h0' : L.getD i false = false := by
    by_cases hs : i < L.size
    · rw [← getD_true_false hs]; exact h0
    · simp [hs]
  refine ⟨o, ho', hi, h0', h0, fun j hj => ?_⟩
  obtain ⟨e, he, hej⟩ := hok.bre i o ho' j hj
  obtain ⟨g, hg, rfl⟩ := List.mem_map.1 he
  obtain ⟨hg1, hg2⟩ := List.mem_filter.1 hg
  have hl := hall g (by simpa using hg1) hg2
  rcases hej with rfl | hej
  · exact hl
  · have hlt := hok.ons i o ho' g.on he
    exact hcl g.on (by omega) hl j hej

theorem getD_set_same {L : Array Bool} {i : Nat} (hi : i < L.size) : (L.setIfInBounds i true).getD i false = true := by simp [hi]
theorem getD_set_cases {L : Array Bool} {i j : Nat} (h : (L.setIfInBounds i true).getD j false = true) : j = i ∨ L.getD j false = true := by
  by_cases e : j = i
  · exact .inl e
  · rw [getD_set_ne false (Ne.symm e)] at h; exact .inr h

theorem inv2_sound (hok : OkDraw n.size l bs p) (hK : ∀ ρ w, K ρ w → Q .normal ρ w) : ∀ (fuel m : Nat) (L : Array Bool) (a : Act) (w : World), p ≤ m → unl L l.length ≤ fuel → Inv2 P l n K m L a w → wpAnyIn (fence n.ro) 1 P .any l.toArray (QA n Q) fuel L a w := by
  intro fuel
  have fin : ∀ (m : Nat) (L : Array Bool) (a : Act) (w : World), Inv2 P l n K m L a w → Region.ready .any l.toArray L = [] → QA n Q .normal a w := by
    intro m L a w h hr
    have hall := ready_all hok h.sz hr
    have hm : l.length ≤ m := by
      by_cases hlt : m < l.length
      · have := (h.up m hlt).1 (hall m hlt); omega
      · omega
    have h2 := h.rl
    rw [List.drop_eq_nil_of_le hm] at h2
    exact .inl ⟨h.ts, h.ds, hK _ _ h2⟩
  induction fuel with
  | zero =>
    intro m L a w hm hf h
    have hz := unl_zero (L := L) l.length (by omega)
    have hr : Region.ready .any l.toArray L = [] := by
      rw [List.eq_nil_iff_forall_not_mem]
      intro i hi
      obtain ⟨h0, o, ho, _⟩ := mem_ready.1 hi
      have hlt : i < l.length := by simpa using (Array.getElem?_eq_some_iff.1 ho).1
      rw [hz i hlt] at h0
      cases h0
    exact ⟨hr, fin m L a w h hr⟩
  | succ fuel ih =>
    intro m L a w hm hf h
    refine ⟨fin m L a w h, fun i hi => ?_⟩
    obtain ⟨h0, o, ho, hall⟩ := mem_ready.1 hi
    have ho' : l[i]? = some o := by simpa using ho
    have hlt : i < l.length := (List.getElem?_eq_some_iff.1 ho').1
    have h0' : L.getD i false = false := by rw [← getD_true_false (by rw [h.sz]; exact hlt)]; exact h0
    have him : m ≤ i := by
      by_cases hc : i < m
      · have := (h.up i hlt).2 hc; rw [h0'] at this; cases this
      · omega
    -- all ahead of i are listed
    have hb : ∀ j ∈ bAt bs i, L.getD j false = true := by
      obtain ⟨_, _, _, _, _, hb⟩ := ready_b hok (L := L) (i := i) (fun k hk hl j hj => by
        have h1 := (h.up k hk).1 hl
        have h2 := hok.blt k hk j hj
        exact (h.up j (by omega)).2 (by omega)) hi
      exact hb
    have hei : i = m := by
      by_cases hc : m < i
      · have := hb m (hok.tail i hlt (by omega) m hc)
        have := (h.up m (by omega)).1 this
        omega
      · omega
    subst hei
    have hd : l.drop i = o :: l.drop (i + 1) := by
      rw [List.drop_eq_getElem_cons hlt]
      have : l[i] = o := by rw [List.getElem?_eq_getElem hlt] at ho'; exact Option.some.inj ho'
      rw [this]
    have h2 := h.rl
    rw [hd] at h2
    unfold RL at h2
    have hdst := List.all_eq_true.1 hok.dst o (List.mem_of_getElem? ho')
    have hunl : unl (L.setIfInBounds i true) l.length ≤ fuel := by
      have := unl_set (L := L) (i := i) l.length
      rw [if_pos ⟨hlt, h0⟩] at this
      omega
    have next : ∀ v w', RL P l.toArray K (l.drop (i + 1)) (updO (envOf a) o.dst v) w' → wpAnyIn (fence n.ro) 1 P .any l.toArray (QA n Q) fuel (L.setIfInBounds i true) (a.put o.dst v) w' := by
      intro v w' hr
      refine ih (i + 1) _ _ _ (by omega) hunl ⟨by simpa using h.sz, (put_size _ _ _).trans h.ts, (put_defs _ _ _).trans h.ds, fun j hj => ?_, ?_⟩
      · by_cases e : j = i
        · subst e; rw [getD_set_same (by rw [h.sz]; exact hlt)]; simp
        · rw [getD_set_ne false (Ne.symm e), h.up j hj]; omega
      · rw [envOf_put _ _ _ (fun d e => by rw [h.ts]; exact dstOk_spec hdst d e)]; exact hr
    unfold wpOpIn
    simp only [ho]
    rw [yielded_env]
    split
    · rename_i hw
      rw [if_pos hw] at h2
      exact OpK.upon (OpK.mono (fun v w' hk => next v w' hk) h2)
    · rename_i hw
      rw [if_neg hw] at h2
      exact ⟨fun _ _ => trivial, next undef w h2⟩

theorem inv1_sound (hok : OkDraw n.size l bs p) (hK : ∀ ρ w, K ρ w → Q .normal ρ w) (hup : ∀ j, j < p → (rsAt rs j).up) (hobl : ∀ k, k < p → Obl P l rs bs ρ w0 k)
    (hfin : ∀ w vs, Ext w0 w → knownB rs vs w (List.range p).reverse → RL P l.toArray K (l.drop p) (envB ρ l rs vs (List.range p).reverse) w) :
    ∀ (fuel : Nat) (L : Array Bool) (a : Act) (w : World), unl L l.length ≤ fuel → Inv1 l rs bs p n ρ w0 L a w → wpAnyIn (fence n.ro) 1 P .any l.toArray (QA n Q) fuel L a w := by
  -- all p are through
  have turn : ∀ (L : Array Bool) (a : Act) (w : World), Inv1 l rs bs p n ρ w0 L a w → (∀ j, j < p → L.getD j false = true) → Inv2 P l n K p L a w := by
    intro L a w h hall
    obtain ⟨vs, h1, h2, h3⟩ := h.ex
    have he : envOf a = envB ρ l rs vs (List.range p).reverse := by
      funext t
      by_cases hc : ∃ j, j < p ∧ dstAt l j = some t
      · obtain ⟨j, hj, hd⟩ := hc
        rw [envB_hit (j := j) _ (by simpa using hj) hd (fun i hi hdi => hok.uniq j hj i (by simpa using hi) t hdi hd), h2 j hj (hall j hj) t hd, RS.sat_of (h1 j hj (hall j hj))]
      · rw [envB_miss _ (fun j hj hd => hc ⟨j, by simpa using hj, hd⟩)]
        exact h3 t (fun j hj _ hd => hc ⟨j, hj, hd⟩)
    refine ⟨h.sz, h.ts, h.ds, fun j hj => ⟨fun hl => ?_, fun hlt => hall j hlt⟩, ?_⟩
    · by_cases hc : j < p
      · exact hc
      · have := h.un j hj (by omega); rw [this] at hl; cases hl
    · rw [he]; exact hfin w vs h.kp (knownB_of _ (fun j hj => h1 j (by simpa using hj) (hall j (by simpa using hj))))
  intro fuel
  have fin : ∀ (L : Array Bool) (a : Act) (w : World), Inv1 l rs bs p n ρ w0 L a w → Region.ready .any l.toArray L = [] → QA n Q .normal a w := by
    intro L a w h hr
    have hall := ready_all hok h.sz hr
    have hI := turn L a w h (fun j hj => hall j (Nat.lt_of_lt_of_le hj hok.le))
    have hp : l.length ≤ p := by
      by_cases hlt : p < l.length
      · have := (hI.up p hlt).1 (hall p hlt); omega
      · omega
    have h2 := hI.rl
    rw [List.drop_eq_nil_of_le hp] at h2
    exact .inl ⟨h.ts, h.ds, hK _ _ h2⟩
  induction fuel with
  | zero =>
    intro L a w hf h
    have hz := unl_zero (L := L) l.length (by omega)
    have hr : Region.ready .any l.toArray L = [] := by
      rw [List.eq_nil_iff_forall_not_mem]
      intro i hi
      obtain ⟨h0, o, ho, _⟩ := mem_ready.1 hi
      have hlt : i < l.length := by simpa using (Array.getElem?_eq_some_iff.1 ho).1
      rw [hz i hlt] at h0
      cases h0
    exact ⟨hr, fin L a w h hr⟩
  | succ fuel ih =>
    intro L a w hf h
    by_cases hcase : ∀ j, j < p → L.getD j false = true
    · exact inv2_sound hok hK (fuel + 1) p L a w (Nat.le_refl _) hf (turn L a w h hcase)
    refine ⟨fin L a w h, fun k hk => ?_⟩
    obtain ⟨o, ho, hlt, h0, h0', hb⟩ := ready_b hok h.cl hk
    have hkp : k < p := by
      by_cases hc : k < p
      · exact hc
      · exact absurd (fun j hj => hb j (hok.tail k hlt (by omega) j (by omega))) hcase
    obtain ⟨vs, h1, h2, h3⟩ := h.ex
    have hbp : ∀ j ∈ bAt bs k, j < p := fun j hj => by have := hok.blt k hlt j hj; omega
    have hob := hobl k hkp w vs h.kp (knownB_of _ (fun j hj => h1 j (hbp j hj) (hb j hj)))
    simp only [ho] at hob
    -- the two environments agree where the operation looks
    have agree : ∀ t ∈ o.looksAt l.toArray, envOf a t = envB ρ l rs vs (bAt bs k) t := by
      intro t ht
      by_cases hc : ∃ j, j < p ∧ dstAt l j = some t
      · obtain ⟨j, hj, hd⟩ := hc
        by_cases hl : L.getD j false = true
        · have hjb : j ∈ bAt bs k := by
            rcases hok.look k o ho hkp j hj t hd ht with h5 | h5 | h5
            · exact h5
            · have := h.cl j (Nat.lt_of_lt_of_le hj hok.le) hl k h5
              rw [h0] at this; cases this
            · subst h5; rw [h0] at hl; cases hl
          rw [h2 j hj hl t hd, envB_hit (j := j) _ hjb hd (fun i hi hdi => hok.uniq j hj i (hbp i hi) t hdi hd), RS.sat_of (h1 j hj hl)]
        · rw [h3 t (fun i hi hli hdi => by
            have := hok.uniq j hj i hi t hdi hd
            subst this; exact hl hli), envB_miss _ (fun i hi hdi => by
            have := hok.uniq j hj i (hbp i hi) t hdi hd
            subst this; exact hl (hb _ hi))]
      · rw [h3 t (fun j hj _ hd => hc ⟨j, hj, hd⟩), envB_miss _ (fun j hj hd => hc ⟨j, hbp j hj, hd⟩)]
    have hsel : ∀ cs b, o.op ≠ .select cs b := fun cs b => Region.noSelect_spec hok.sel k o cs b (by simpa using ho)
    unfold OblOp at hob
    rw [← wanted_congrE agree] at hob
    have hdst := List.all_eq_true.1 hok.dst o (List.mem_of_getElem? ho)
    have hunl : unl (L.setIfInBounds k true) l.length ≤ fuel := by
      have := unl_set (L := L) (i := k) l.length
      rw [if_pos ⟨hlt, h0'⟩] at this
      omega
    have hdk : dstAt l k = o.dst := by simp [dstAt, ho]
    have hksz : k < L.size := by rw [h.sz]; exact hlt
    have next : ∀ v w', Ext w w' → (rsAt rs k).sat v w' → wpAnyIn (fence n.ro) 1 P .any l.toArray (QA n Q) fuel (L.setIfInBounds k true) (a.put o.dst v) w' := by
      intro v w' hext hsat
      have henv : envOf (a.put o.dst v) = updO (envOf a) o.dst v := envOf_put _ _ _ (fun d e => by rw [h.ts]; exact dstOk_spec hdst d e)
      refine ih _ _ _ hunl ⟨by simpa using h.sz, (put_size _ _ _).trans h.ts, (put_defs _ _ _).trans h.ds, ?_, ?_, h.kp.trans hext, fun j => if j = k then v else vs j, ?_, ?_, ?_⟩
      · intro m hm hl j hj
        rcases getD_set_cases hl with rfl | hl
        · exact getD_set_true (hb j hj)
        · exact getD_set_true (h.cl m hm hl j hj)
      · intro j hj hpj
        rw [getD_set_ne false (by omega)]; exact h.un j hj hpj
      · intro j hj hl
        rcases getD_set_cases hl with rfl | hl
        · simp only [if_true]; exact hsat
        · by_cases e : j = k
          · subst e; simp only [if_true]; exact hsat
          · simp only [e, if_false]; exact RS.sat_up (hup j hj) (h1 j hj hl) hext
      · intro j hj hl d hd
        rw [henv]
        by_cases e : j = k
        · subst e
          rw [← hdk, hd]
          simp only [if_true]
          exact upd_at _ _ _
        · simp only [e, if_false]
          have hl' := (getD_set_cases hl).resolve_left e
          cases hok' : o.dst with
          | none => exact h2 j hj hl' d hd
          | some d' =>
            have hne : d ≠ d' := fun h' => e (hok.uniq k hkp j hj d hd (by rw [hdk, hok', h']))
            show upd _ d' _ d = _
            rw [upd_ne _ _ hne]; exact h2 j hj hl' d hd
      · intro t ht
        rw [henv]
        have hnk : dstAt l k ≠ some t := ht k hkp (getD_set_same hksz)
        have hrest := h3 t (fun j hj hl => ht j hj (getD_set_true hl))
        cases hok' : o.dst with
        | none => exact hrest
        | some d' =>
          have hne : t ≠ d' := fun h' => hnk (by rw [hdk, hok', h'])
          show upd _ d' _ t = _
          rw [upd_ne _ _ hne]; exact hrest
    unfold wpOpIn
    have hoa : l.toArray[k]? = some o := by simpa using ho
    simp only [hoa]
    rw [yielded_env]
    split
    · rename_i hw
      rw [if_pos hw] at hob
      refine OpK.upon ?_
      have hob' : OpK P o (envOf a) w (fun v w' => Ext w w' ∧ (rsAt rs k).sat v w') := by
        unfold OpK at hob ⊢
        rw [ev_congr agree hsel]; exact hob
      exact OpK.mono (fun v w' hk => next v w' hk.1 hk.2) hob'
    · rename_i hw
      rw [if_neg hw] at hob
      exact ⟨fun _ _ => trivial, next undef w (Kp.refl _ _) hob⟩

/-- A REGION THAT DRAWS ITS ORDER: of each of its first p operations, whatever has been carried out ahead of it, what 'rs' says; behind them the rest, in its order. -/
theorem cw_draw {id : Nat} {w : World} (rs : List RS) (bs : List (List Nat)) (p : Nat) (hm : P.follows .mixedOrders = true) (hok : okDraw n.size l bs p = true) (hup : ∀ j, j < p → (rsAt rs j).up)
    (hobl : OblAll P l rs bs ρ w p)
    (hfin : ∀ w1 vs, Ext w w1 → knownB rs vs w1 (List.range p).reverse → RL P l.toArray (Q .normal) (l.drop p) (envB ρ l rs vs (List.range p).reverse) w1) :
    CW P n (.region id l.toArray true) Q ρ w := fun a hs hd he => by
  have hok' := okDraw_spec hok
  refine wpIn_region_any hm (inv1_sound (K := Q .normal) (ρ := ρ) (w0 := w) hok' (fun _ _ h => h) hup (fun k hk => hobl.at k hk) hfin _ _ a _ ?_ ?_)
  · have : ∀ m, unl (Array.replicate l.toArray.size false) m ≤ m := by
      intro m
      induction m with
      | zero => exact Nat.le_refl _
      | succ m ih => simp only [unl]; split <;> omega
    simpa using this l.length
  · have hno : ∀ j, (Array.replicate l.toArray.size false).getD j false = false := by
      intro j
      simp only [Array.getD_eq_getD_getElem?, Array.getElem?_replicate]
      split <;> rfl
    refine ⟨by simp, hs, hd, fun m _ hl => ?_, fun k _ _ => hno k, (Kp.refl Non w).drew, fun _ => undef, fun j _ hl => ?_, fun j _ hl => ?_, fun t _ => by rw [he]⟩
    · rw [hno m] at hl; cases hl
    · rw [hno j] at hl; cases hl
    · rw [hno j] at hl; cases hl
end
end Go.Proofs.YtcmlklnelipacaaDoor

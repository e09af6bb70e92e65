import Derived.Test.YtcmlklnelipacaaDoorLogI
/- Regions that draw their order, once more: what each operation makes lies in a stretch of its own. -/
set_option linter.unusedVariables false
set_option linter.unusedSimpArgs false
namespace Go.Proofs.YtcmlklnelipacaaDoor
open Go.RowKit
abbrev Tld := Value × Nat × Nat
/-- The values, and the stretches of new blocks, of an operation's forerunners. -/
def ctxB (bs : List (List Nat)) (vs : Nat → Value) (lo hi : Nat → Nat) (k : Nat) : List Tld := (bAt bs k).map fun m => (vs m, lo m, hi m)
def ctxOf (bs : List (List Nat)) (vs : Nat → Value) (lo hi : Nat → Nat) (j : Nat) : List Tld := (vs j, lo j, hi j) :: ctxB bs vs lo hi j
theorem ctxB_congr {bs : List (List Nat)} {vs vs' : Nat → Value} {lo lo' hi hi' : Nat → Nat} {k : Nat} (h : ∀ m ∈ bAt bs k, vs m = vs' m ∧ lo m = lo' m ∧ hi m = hi' m) : ctxB bs vs lo hi k = ctxB bs vs' lo' hi' k :=
  List.map_congr_left (fun m hm => by obtain ⟨h1, h2, h3⟩ := h m hm; rw [h1, h2, h3])
/-- What is known of an operation's value, and of the stretch of new blocks that it made. -/
inductive RS3 where
  | val (c : Value)
  | fact (R : List Tld → World → Prop)
def RS3.sat : RS3 → Value → List Tld → World → Prop
  | .val c, v, _, _ => v = c
  | .fact R, _, c, w => R c w
def RS3.of : RS3 → Value → Value
  | .val c, _ => c
  | .fact _, v => v
def RS3.known : RS3 → List Tld → World → Prop
  | .val _, _, _ => True
  | .fact R, c, w => R c w
theorem RS3.sat_of {s : RS3} {v : Value} {c : List Tld} {w : World} (h : s.sat v c w) : s.of v = v := by cases s <;> first | exact h.symm | rfl
theorem RS3.sat_known {s : RS3} {v : Value} {c : List Tld} {w : World} (h : s.sat v c w) : s.known c w := by cases s <;> first | trivial | exact h
def RS3.upW (W : World → World → Prop) : RS3 → Prop
  | .val _ => True
  | .fact R => ∀ c w w', R c w → W w w' → R c w'
theorem RS3.sat_upW {W : World → World → Prop} {s : RS3} (hu : s.upW W) {v : Value} {c : List Tld} {w w' : World} (h : s.sat v c w) (k : W w w') : s.sat v c w' := by
  cases s with
  | val c => exact h
  | fact R => exact hu c w w' h k
def rsAt3 (rs : List RS3) (j : Nat) : RS3 := rs.getD j (.val undef)
def envB3 (ρ : Env) (l : List Oper) (rs : List RS3) (vs : Nat → Value) : List Nat → Env
  | [] => ρ
  | j :: b => updO (envB3 ρ l rs vs b) (dstAt l j) ((rsAt3 rs j).of (vs j))
def knownB3 (rs : List RS3) (bs : List (List Nat)) (vs : Nat → Value) (lo hi : Nat → Nat) (w0 w : World) : List Nat → Prop
  | [] => True
  | j :: b => ((rsAt3 rs j).known (ctxOf bs vs lo hi j) w ∧ w0.heap.size ≤ lo j ∧ lo j ≤ hi j ∧ hi j ≤ w.heap.size) ∧ knownB3 rs bs vs lo hi w0 w b
/-- The stretches lie apart. -/
def apart (bs : List (List Nat)) (lo hi : Nat → Nat) (b : List Nat) : Prop := ∀ i j, i ∈ b → j ∈ b → i ≠ j → (hi i ≤ lo j ∨ hi j ≤ lo i) ∧ (i ∈ bAt bs j → hi i ≤ lo j)
section
variable {l : List Oper} {rs : List RS3} {ρ : Env}
theorem envB3_miss {vs : Nat → Value} {t : Nat} : ∀ (b : List Nat), (∀ j ∈ b, dstAt l j ≠ some t) → envB3 ρ l rs vs b t = ρ t
  | [], _ => rfl
  | j :: b, h => by
    have h0 := h j (by simp)
    have ih := envB3_miss (vs := vs) b (fun i hi => h i (by simp [hi]))
    unfold envB3
    cases hd : dstAt l j with
    | none => exact ih
    | some d =>
      have : t ≠ d := fun e => h0 (by rw [hd, e])
      show upd _ d _ t = _
      rw [upd_ne _ _ this]; exact ih
theorem envB3_hit {vs : Nat → Value} {t j : Nat} : ∀ (b : List Nat), j ∈ b → dstAt l j = some t → (∀ i ∈ b, dstAt l i = some t → i = j) → envB3 ρ l rs vs b t = (rsAt3 rs j).of (vs j)
  | [], h, _, _ => by cases h
  | i :: b, h, hd, hu => by
    unfold envB3
    by_cases e : dstAt l i = some t
    · have := hu i (by simp) e
      subst this
      rw [e]
      exact upd_at _ _ _
    · have hj : j ∈ b := by
        rcases List.mem_cons.1 h with rfl | h
        · exact absurd hd e
        · exact h
      have ih := envB3_hit (vs := vs) b hj hd (fun i hi => hu i (by simp [hi]))
      cases hdi : dstAt l i with
      | none => exact ih
      | some d =>
        have : t ≠ d := fun h' => e (by rw [hdi, h'])
        show upd _ d _ t = _
        rw [upd_ne _ _ this]; exact ih
theorem knownB3_of {bs : List (List Nat)} {vs : Nat → Value} {lo hi : Nat → Nat} {w0 w : World} : ∀ (b : List Nat), (∀ j ∈ b, (rsAt3 rs j).sat (vs j) (ctxOf bs vs lo hi j) w) → (∀ j ∈ b, w0.heap.size ≤ lo j ∧ lo j ≤ hi j ∧ hi j ≤ w.heap.size) → knownB3 rs bs vs lo hi w0 w b
  | [], _, _ => trivial
  | j :: b, h, hl => ⟨⟨RS3.sat_known (h j (by simp)), hl j (by simp)⟩, knownB3_of b (fun i hi => h i (by simp [hi])) (fun i hi => hl i (by simp [hi]))⟩
end
/-- What an operation leaves is told by the strong list where it is ahead of k0. -/
def rsIf3 (k0 k : Nat) (pre : Bool) (s s' : RS3) : RS3 := if pre = true ∧ k ≠ k0 then s' else s
def OblOpK (T : Nat → Prop) (k0 k : Nat) (pre : Bool) (cb : List Tld) (P : Program) (ops : Array Oper) (o : Oper) (ρ : Env) (w : World) (s s' : RS3) : Prop :=
  if Region.wanted o (yieldE ops ρ) then OpK P o ρ w (fun v w' => Kp (fun b => k = k0 ∧ T b) w w' ∧ (rsIf3 k0 k pre s s').sat v ((v, w.heap.size, w'.heap.size) :: cb) w') else (rsIf3 k0 k pre s s').sat undef ((undef, w.heap.size, w.heap.size) :: cb) w
def OblK (T0 : Nat → Prop) (T : (Nat → Nat) → (Nat → Nat) → Nat → Prop) (k0 : Nat) (P : Program) (l : List Oper) (rs rp : List RS3) (bs : List (List Nat)) (ρ : Env) (w0 : World) (k : Nat) : Prop :=
  (preS k0 bs k = true → ∀ w vs lo hi, Ext w0 w → knownB3 rp bs vs lo hi w0 w (bAt bs k) → apart bs lo hi (bAt bs k) → match l[k]? with
    | some o => OblOpK (T lo hi) k0 k (preS k0 bs k) (ctxB bs vs lo hi k) P l.toArray o (envB3 ρ l rp vs (bAt bs k)) w (rsAt3 rs k) (rsAt3 rp k)
    | none => True) ∧
  (preS k0 bs k = false → ∀ w vs lo hi, Kp T0 w0 w → knownB3 rs bs vs lo hi w0 w (bAt bs k) → apart bs lo hi (bAt bs k) → match l[k]? with
    | some o => OblOpK (T lo hi) k0 k (preS k0 bs k) (ctxB bs vs lo hi k) P l.toArray o (envB3 ρ l rs vs (bAt bs k)) w (rsAt3 rs k) (rsAt3 rp k)
    | none => True)
/-- It abides what is written in T, once the writing one's forerunners have been carried out. -/
def RS3.upT (w0 : World) (T : (Nat → Nat) → (Nat → Nat) → Nat → Prop) (k0 : Nat) (bs : List (List Nat)) (j : Nat) : RS3 → Prop
  | .val _ => True
  | .fact R => ∀ (vs : Nat → Value) (lo hi : Nat → Nat) (w w' : World), apart bs lo hi (j :: bAt bs k0) → (∀ m ∈ j :: bAt bs k0, w0.heap.size ≤ lo m ∧ lo m ≤ hi m) → R (ctxOf bs vs lo hi j) w → Kp (T lo hi) w w' → R (ctxOf bs vs lo hi j) w'
/-- How facts abide. -/
def upK (w0 : World) (T : (Nat → Nat) → (Nat → Nat) → Nat → Prop) (k0 : Nat) (bs : List (List Nat)) (j : Nat) (s s' : RS3) : Prop :=
  if Nat.beq j k0 then s.upW Ext else if (bAt bs k0).contains j then s'.upW Ext ∧ (s.upW Ext ∧ s.upT w0 T k0 bs j) ∧ (∀ v c w, s'.sat v c w → s.sat v c w) else if (bAt bs j).contains k0 then s' = s ∧ s.upW Ext else s' = s ∧ s.upW Ext ∧ s.upT w0 T k0 bs j
def UpK (w0 : World) (T : (Nat → Nat) → (Nat → Nat) → Nat → Prop) (k0 : Nat) (bs : List (List Nat)) (rs rp : List RS3) (j : Nat) : Prop := upK w0 T k0 bs j (rsAt3 rs j) (rsAt3 rp j)
theorem RS3.sat_upT {w0 : World} {T : (Nat → Nat) → (Nat → Nat) → Nat → Prop} {k0 : Nat} {bs : List (List Nat)} {j : Nat} {s : RS3} (hu : s.upT w0 T k0 bs j) {vs : Nat → Value} {lo hi : Nat → Nat} {v : Value} {w w' : World} (ha : apart bs lo hi (j :: bAt bs k0)) (hb : ∀ m ∈ j :: bAt bs k0, w0.heap.size ≤ lo m ∧ lo m ≤ hi m) (h : s.sat v (ctxOf bs vs lo hi j) w) (k : Kp (T lo hi) w w') : s.sat v (ctxOf bs vs lo hi j) w' := by
  cases s with
  | val c => exact h
  | fact R => exact hu vs lo hi w w' ha hb h k
theorem UpK.later {w0 : World} {T : (Nat → Nat) → (Nat → Nat) → Nat → Prop} {k0 : Nat} {bs : List (List Nat)} {rs rp : List RS3} {j k : Nat} (h : UpK w0 T k0 bs rs rp j) (hne : k ≠ j) (hb : k = k0 → k0 ∉ bAt bs j) {vs : Nat → Value} {lo hi : Nat → Nat} {v : Value} {w w' : World}
    (ha : k = k0 → apart bs lo hi (j :: bAt bs k0)) (hbd : k = k0 → ∀ m ∈ j :: bAt bs k0, w0.heap.size ≤ lo m ∧ lo m ≤ hi m)
    (hs : (rsAt3 rs j).sat v (ctxOf bs vs lo hi j) w) (hk : Kp (fun b => k = k0 ∧ T lo hi b) w w') : (rsAt3 rs j).sat v (ctxOf bs vs lo hi j) w' := by
  by_cases e0 : k = k0
  · have hk' : Kp (T lo hi) w w' := hk.mono (fun _ _ hb => hb.2)
    unfold UpK upK at h
    split at h
    · rename_i e
      have e := Nat.eq_of_beq_eq_true e
      exact absurd (e0.trans e.symm) hne
    · split at h
      · exact RS3.sat_upT h.2.1.2 (ha e0) (hbd e0) hs hk'
      · split at h
        · rename_i hc
          exact absurd (by simpa using hc) (hb e0)
        · exact RS3.sat_upT h.2.2 (ha e0) (hbd e0) hs hk'
  · have hk' : Ext w w' := hk.mono (fun _ _ hb => absurd hb.1 e0)
    unfold UpK upK at h
    split at h
    · exact RS3.sat_upW h hs hk'
    · split at h
      · exact RS3.sat_upW h.2.1.1 hs hk'
      · split at h
        · exact RS3.sat_upW h.2 hs hk'
        · exact RS3.sat_upW h.2.1 hs hk'
theorem UpK.strong {w0 : World} {T : (Nat → Nat) → (Nat → Nat) → Nat → Prop} {k0 : Nat} {bs : List (List Nat)} {rs rp : List RS3} {j : Nat} (h : UpK w0 T k0 bs rs rp j) (hne : j ≠ k0) {v : Value} {c : List Tld} {w w' : World} (hs : (rsAt3 rp j).sat v c w) (hk : Ext w w') : (rsAt3 rp j).sat v c w' := by
  unfold UpK upK at h
  split at h
  · rename_i e; exact absurd (Nat.eq_of_beq_eq_true e) hne
  · split at h
    · exact RS3.sat_upW h.1 hs hk
    · split at h
      · rw [h.1] at hs ⊢; exact RS3.sat_upW h.2 hs hk
      · rw [h.1] at hs ⊢; exact RS3.sat_upW h.2.1 hs hk
theorem UpK.satL {w0 : World} {T : (Nat → Nat) → (Nat → Nat) → Nat → Prop} {k0 : Nat} {bs : List (List Nat)} {rs rp : List RS3} {k : Nat} (h : UpK w0 T k0 bs rs rp k) {v : Value} {c : List Tld} {w : World} (hs : (rsIf3 k0 k (preS k0 bs k) (rsAt3 rs k) (rsAt3 rp k)).sat v c w) : (rsAt3 rs k).sat v c w := by
  unfold rsIf3 at hs
  unfold UpK upK at h
  split at h
  · rename_i e; rw [if_neg (fun hc => hc.2 (Nat.eq_of_beq_eq_true e))] at hs; exact hs
  · rename_i e
    have hne : k ≠ k0 := fun e' => e (by subst e'; simp)
    split at h
    · rename_i hc
      have hm : k ∈ bAt bs k0 := by simpa using hc
      rw [if_pos ⟨preS_spec.2 (.inr hm), hne⟩] at hs; exact h.2.2 v c w hs
    · have h1 : rsAt3 rp k = rsAt3 rs k := by split at h <;> exact h.1
      split at hs
      · rw [h1] at hs; exact hs
      · exact hs
theorem UpK.satP {w0 : World} {T : (Nat → Nat) → (Nat → Nat) → Nat → Prop} {k0 : Nat} {bs : List (List Nat)} {rs rp : List RS3} {k : Nat} (h : UpK w0 T k0 bs rs rp k) (hne : k ≠ k0) {v : Value} {c : List Tld} {w : World} (hs : (rsIf3 k0 k (preS k0 bs k) (rsAt3 rs k) (rsAt3 rp k)).sat v c w) : (rsAt3 rp k).sat v c w := by
  unfold rsIf3 at hs
  unfold UpK upK at h
  split at h
  · rename_i e; exact absurd (Nat.eq_of_beq_eq_true e) hne
  · split at h
    · rename_i hc
      have hm : k ∈ bAt bs k0 := by simpa using hc
      rw [if_pos ⟨preS_spec.2 (.inr hm), hne⟩] at hs; exact hs
    · have h1 : rsAt3 rp k = rsAt3 rs k := by split at h <;> exact h.1
      split at hs
      · exact hs
      · rw [h1]; exact hs
section
variable {P : Program} {n : Cx} {l : List Oper} {rs rp : List RS3} {bs : List (List Nat)} {p : Nat} {ρ : Env} {w0 : World} {K : Env → World → Prop} {Q : Exit → Env → World → Prop}
structure Inv1K (T0 : Nat → Prop) (k0 : Nat) (l : List Oper) (rs rp : List RS3) (bs : List (List Nat)) (p : Nat) (n : Cx) (ρ : Env) (w0 : World) (L : Array Bool) (a : Act) (w : World) : Prop where
  sz : L.size = l.length
  ts : a.tmps.size = n.size
  ds : a.defers = n.ds
  cl : ∀ m, m < l.length → L.getD m false = true → ∀ j ∈ bAt bs m, L.getD j false = true
  un : ∀ k, k < l.length → p ≤ k → L.getD k false = false
  kp : Kp T0 w0 w
  kx : L.getD k0 false = false → Ext w0 w
  ex : ∃ (vs : Nat → Value) (lo hi : Nat → Nat), (∀ j, j < p → L.getD j false = true → (rsAt3 rs j).sat (vs j) (ctxOf bs vs lo hi j) w) ∧ (L.getD k0 false = false → ∀ j, j < p → L.getD j false = true → (rsAt3 rp j).sat (vs j) (ctxOf bs vs lo hi j) w) ∧ (∀ j, j < p → L.getD j false = true → w0.heap.size ≤ lo j ∧ lo j ≤ hi j ∧ hi j ≤ w.heap.size) ∧ (∀ i j, i < p → j < p → L.getD i false = true → L.getD j false = true → i ≠ j → (hi i ≤ lo j ∨ hi j ≤ lo i) ∧ (i ∈ bAt bs j → hi i ≤ lo j)) ∧ (∀ j, j < p → L.getD j false = true → ∀ d, dstAt l j = some d → envOf a d = vs j) ∧
    (∀ t, (∀ j, j < p → L.getD j false = true → dstAt l j ≠ some t) → envOf a t = ρ t)
theorem inv1_soundK {T0 : Nat → Prop} {T : (Nat → Nat) → (Nat → Nat) → Nat → Prop} {k0 : Nat} (hT0 : ∀ lo hi, (∀ m ∈ bAt bs k0, w0.heap.size ≤ lo m) → ∀ k, k < w0.heap.size → T lo hi k → T0 k) (hok : OkDraw n.size l bs p) (hK : ∀ ρ w, K ρ w → Q .normal ρ w) (hup : ∀ j, j < p → UpK w0 T k0 bs rs rp j) (hobl : ∀ k, k < p → OblK T0 T k0 P l rs rp bs ρ w0 k)
    (hfin : ∀ w vs lo hi, Kp T0 w0 w → knownB3 rs bs vs lo hi w0 w (List.range p).reverse → apart bs lo hi (List.range p).reverse → RL P l.toArray K (l.drop p) (envB3 ρ l rs vs (List.range p).reverse) w) :
    ∀ (fuel : Nat) (L : Array Bool) (a : Act) (w : World), unl L l.length ≤ fuel → Inv1K T0 k0 l rs rp bs p n ρ w0 L a w → wpAnyIn (fence n.ro) 1 P .any l.toArray (QA n Q) fuel L a w := by
  -- all p are through
  have turn : ∀ (L : Array Bool) (a : Act) (w : World), Inv1K T0 k0 l rs rp bs p n ρ w0 L a w → (∀ j, j < p → L.getD j false = true) → Inv2 P l n K p L a w := by
    intro L a w h hall
    obtain ⟨vs, lo, hi, h1, h1p, hlh, hap, h2, h3⟩ := h.ex
    have he : envOf a = envB3 ρ l rs vs (List.range p).reverse := by
      funext t
      by_cases hc : ∃ j, j < p ∧ dstAt l j = some t
      · obtain ⟨j, hj, hd⟩ := hc
        rw [envB3_hit (j := j) _ (by simpa using hj) hd (fun i hi hdi => hok.uniq j hj i (by simpa using hi) t hdi hd), h2 j hj (hall j hj) t hd, RS3.sat_of (h1 j hj (hall j hj))]
      · rw [envB3_miss _ (fun j hj hd => hc ⟨j, by simpa using hj, hd⟩)]
        exact h3 t (fun j hj _ hd => hc ⟨j, hj, hd⟩)
    refine ⟨h.sz, h.ts, h.ds, fun j hj => ⟨fun hl => ?_, fun hlt => hall j hlt⟩, ?_⟩
    · by_cases hc : j < p
      · exact hc
      · have := h.un j hj (by omega); rw [this] at hl; cases hl
    · rw [he]; exact hfin w vs lo hi h.kp (knownB3_of _ (fun j hj => h1 j (by simpa using hj) (hall j (by simpa using hj))) (fun j hj => hlh j (by simpa using hj) (hall j (by simpa using hj)))) (fun i j hi' hj' hne => hap i j (by simpa using hi') (by simpa using hj') (hall i (by simpa using hi')) (hall j (by simpa using hj')) hne)
  intro fuel
  have fin : ∀ (L : Array Bool) (a : Act) (w : World), Inv1K T0 k0 l rs rp bs p n ρ w0 L a w → Region.ready .any l.toArray L = [] → QA n Q .normal a w := by
    intro L a w h hr
    have hall := ready_all hok h.sz hr
    have hI := turn L a w h (fun j hj => hall j (Nat.lt_of_lt_of_le hj hok.le))
    have hp : l.length ≤ p := by
      by_cases hlt : p < l.length
      · have := (hI.up p hlt).1 (hall p hlt); omega
      · omega
    have h2 := hI.rl
    rw [List.drop_eq_nil_of_le hp] at h2
    exact .inl ⟨h.ts, h.ds, hK _ _ h2⟩
  induction fuel with
  | zero =>
    intro L a w hf h
    have hz := unl_zero (L := L) l.length (by omega)
    have hr : Region.ready .any l.toArray L = [] := by
      rw [List.eq_nil_iff_forall_not_mem]
      intro i hi
      obtain ⟨h0, o, ho, _⟩ := mem_ready.1 hi
      have hlt : i < l.length := by simpa using (Array.getElem?_eq_some_iff.1 ho).1
      rw [hz i hlt] at h0
      cases h0
    exact ⟨hr, fin L a w h hr⟩
  | succ fuel ih =>
    intro L a w hf h
    by_cases hcase : ∀ j, j < p → L.getD j false = true
    · exact inv2_sound hok hK (fuel + 1) p L a w (Nat.le_refl _) hf (turn L a w h hcase)
    refine ⟨fin L a w h, fun k hk => ?_⟩
    obtain ⟨o, ho, hlt, h0, h0', hb⟩ := ready_b hok h.cl hk
    have hkp : k < p := by
      by_cases hc : k < p
      · exact hc
      · exact absurd (fun j hj => hb j (hok.tail k hlt (by omega) j (by omega))) hcase
    obtain ⟨vs, lo, hi, h1, h1p, hlh, hap, h2, h3⟩ := h.ex
    have hbp : ∀ j ∈ bAt bs k, j < p := fun j hj => by have := hok.blt k hlt j hj; omega
    have hk0 : preS k0 bs k = true → L.getD k0 false = false := by
      intro hp
      rcases preS_spec.1 hp with rfl | hp
      · exact h0
      · by_cases hc : L.getD k0 false = true
        · have hlt0 : k0 < l.length := by
            by_cases hlt : k0 < l.length
            · exact hlt
            · rw [← h.sz] at hlt; simp [hlt] at hc
          have := h.cl k0 hlt0 hc k hp
          rw [h0] at this; cases this
        · simpa using hc
    obtain ⟨rq, hrq, hob⟩ : ∃ rq : List RS3, (∀ j ∈ bAt bs k, (rsAt3 rq j).sat (vs j) (ctxOf bs vs lo hi j) w) ∧ OblOpK (T lo hi) k0 k (preS k0 bs k) (ctxB bs vs lo hi k) P l.toArray o (envB3 ρ l rq vs (bAt bs k)) w (rsAt3 rs k) (rsAt3 rp k) := by
      by_cases hp : preS k0 bs k = true
      · have hl0 := hk0 hp
        have hob := (hobl k hkp).1 hp w vs lo hi (h.kx hl0) (knownB3_of _ (fun j hj => h1p hl0 j (hbp j hj) (hb j hj)) (fun j hj => hlh j (hbp j hj) (hb j hj))) (fun i j hi' hj' hne => hap i j (hbp i hi') (hbp j hj') (hb i hi') (hb j hj') hne)
        simp only [ho] at hob
        exact ⟨rp, fun j hj => h1p hl0 j (hbp j hj) (hb j hj), hob⟩
      · have hp' : preS k0 bs k = false := by simpa using hp
        have hob := (hobl k hkp).2 hp' w vs lo hi h.kp (knownB3_of _ (fun j hj => h1 j (hbp j hj) (hb j hj)) (fun j hj => hlh j (hbp j hj) (hb j hj))) (fun i j hi' hj' hne => hap i j (hbp i hi') (hbp j hj') (hb i hi') (hb j hj') hne)
        simp only [ho] at hob
        exact ⟨rs, fun j hj => h1 j (hbp j hj) (hb j hj), hob⟩
    -- the two environments agree where the operation looks
    have agree : ∀ t ∈ o.looksAt l.toArray, envOf a t = envB3 ρ l rq vs (bAt bs k) t := by
      intro t ht
      by_cases hc : ∃ j, j < p ∧ dstAt l j = some t
      · obtain ⟨j, hj, hd⟩ := hc
        by_cases hl : L.getD j false = true
        · have hjb : j ∈ bAt bs k := by
            rcases hok.look k o ho hkp j hj t hd ht with h5 | h5 | h5
            · exact h5
            · have := h.cl j (Nat.lt_of_lt_of_le hj hok.le) hl k h5
              rw [h0] at this; cases this
            · subst h5; rw [h0] at hl; cases hl
          rw [h2 j hj hl t hd, envB3_hit (j := j) _ hjb hd (fun i hi hdi => hok.uniq j hj i (hbp i hi) t hdi hd), RS3.sat_of (hrq j hjb)]
        · rw [h3 t (fun i hi hli hdi => by
            have := hok.uniq j hj i hi t hdi hd
            subst this; exact hl hli), envB3_miss _ (fun i hi hdi => by
            have := hok.uniq j hj i (hbp i hi) t hdi hd
            subst this; exact hl (hb _ hi))]
      · rw [h3 t (fun j hj _ hd => hc ⟨j, hj, hd⟩), envB3_miss _ (fun j hj hd => hc ⟨j, hbp j hj, hd⟩)]
    have hsel : ∀ cs b, o.op ≠ .select cs b := fun cs b => Region.noSelect_spec hok.sel k o cs b (by simpa using ho)
    unfold OblOpK at hob
    rw [← wanted_congrE agree] at hob
    have hdst := List.all_eq_true.1 hok.dst o (List.mem_of_getElem? ho)
    have hunl : unl (L.setIfInBounds k true) l.length ≤ fuel := by
      have := unl_set (L := L) (i := k) l.length
      rw [if_pos ⟨hlt, h0'⟩] at this
      omega
    have hdk : dstAt l k = o.dst := by simp [dstAt, ho]
    have hksz : k < L.size := by rw [h.sz]; exact hlt
    have next : ∀ v w', Kp (fun b => k = k0 ∧ T lo hi b) w w' → (rsAt3 rs k).sat v ((v, w.heap.size, w'.heap.size) :: ctxB bs vs lo hi k) w' → (k ≠ k0 → (rsAt3 rp k).sat v ((v, w.heap.size, w'.heap.size) :: ctxB bs vs lo hi k) w') → wpAnyIn (fence n.ro) 1 P .any l.toArray (QA n Q) fuel (L.setIfInBounds k true) (a.put o.dst v) w' := by
      intro v w' hext hsat hsatp
      have hctx : ∀ j, j < p → L.getD j false = true → j ≠ k → ctxOf bs (fun j => if j = k then v else vs j) (fun j => if j = k then w.heap.size else lo j) (fun j => if j = k then w'.heap.size else hi j) j = ctxOf bs vs lo hi j := by
        intro j hj hl hne
        unfold ctxOf
        rw [ctxB_congr (vs' := vs) (lo' := lo) (hi' := hi)]
        · simp only [hne, if_false]
        · intro m hm
          have hmk : m ≠ k := fun e => by
            have := h.cl j (Nat.lt_of_lt_of_le hj hok.le) hl m hm
            rw [e, h0] at this; cases this
          simp only [hmk, if_false, and_self]
      have hctk : ctxOf bs (fun j => if j = k then v else vs j) (fun j => if j = k then w.heap.size else lo j) (fun j => if j = k then w'.heap.size else hi j) k = (v, w.heap.size, w'.heap.size) :: ctxB bs vs lo hi k := by
        unfold ctxOf
        rw [ctxB_congr (vs' := vs) (lo' := lo) (hi' := hi)]
        · simp only [if_true]
        · intro m hm
          have hmk : m ≠ k := fun e => by have := hok.blt k hlt m hm; omega
          simp only [hmk, if_false, and_self]
      have henv : envOf (a.put o.dst v) = updO (envOf a) o.dst v := envOf_put _ _ _ (fun d e => by rw [h.ts]; exact dstOk_spec hdst d e)
      refine ih _ _ _ hunl ⟨by simpa using h.sz, (put_size _ _ _).trans h.ts, (put_defs _ _ _).trans h.ds, ?_, ?_, h.kp.later hext (fun i hi' hT => by obtain ⟨e, hT⟩ := hT; subst e; exact hT0 lo hi (fun m hm => (hlh m (hbp m hm) (hb m hm)).1) i hi' hT), ?_, fun j => if j = k then v else vs j, fun j => if j = k then w.heap.size else lo j, fun j => if j = k then w'.heap.size else hi j, ?_, ?_, ?_, ?_, ?_, ?_⟩
      · intro m hm hl j hj
        rcases getD_set_cases hl with rfl | hl
        · exact getD_set_true (hb j hj)
        · exact getD_set_true (h.cl m hm hl j hj)
      · intro j hj hpj
        rw [getD_set_ne false (by omega)]; exact h.un j hj hpj
      · intro hl
        by_cases e : k = k0
        · subst e; rw [getD_set_same hksz] at hl; cases hl
        · rw [getD_set_ne false e] at hl
          exact (h.kx hl).trans (hext.mono (fun _ _ hb => absurd hb.1 e))
      · intro j hj hl
        by_cases e : j = k
        · subst e; rw [hctk]; simp only [if_true]; exact hsat
        · rcases getD_set_cases hl with e' | hl
          · exact absurd e' e
          · rw [hctx j hj hl e]; simp only [e, if_false]; exact UpK.later (hup j hj) (fun h' => e h'.symm) (fun hkk hm => by
              have := h.cl j (Nat.lt_of_lt_of_le hj hok.le) hl k0 hm
              rw [← hkk, h0] at this; cases this) (fun hkk a b ha' hb' hne' => by
                subst hkk
                have la : a < p ∧ L.getD a false = true := by rcases List.mem_cons.1 ha' with rfl | hm; exact ⟨hj, hl⟩; exact ⟨hbp a hm, hb a hm⟩
                have lb : b < p ∧ L.getD b false = true := by rcases List.mem_cons.1 hb' with rfl | hm; exact ⟨hj, hl⟩; exact ⟨hbp b hm, hb b hm⟩
                exact hap a b la.1 lb.1 la.2 lb.2 hne') (fun hkk m hm => by
                subst hkk
                have lm : m < p ∧ L.getD m false = true := by rcases List.mem_cons.1 hm with rfl | hm; exact ⟨hj, hl⟩; exact ⟨hbp m hm, hb m hm⟩
                have := hlh m lm.1 lm.2; exact ⟨this.1, this.2.1⟩) (h1 j hj hl) hext
      · intro hl0 j hj hl
        have hkk : k ≠ k0 := fun e => by subst e; rw [getD_set_same hksz] at hl0; cases hl0
        have hl0' : L.getD k0 false = false := by rw [getD_set_ne false hkk] at hl0; exact hl0
        have hx : Ext w w' := hext.mono (fun _ _ hb => absurd hb.1 hkk)
        by_cases e : j = k
        · subst e; rw [hctk]; simp only [if_true]; exact hsatp hkk
        · rcases getD_set_cases hl with e' | hl
          · exact absurd e' e
          · have hj0 : j ≠ k0 := fun e => by subst e; rw [hl0'] at hl; cases hl
            rw [hctx j hj hl e]; simp only [e, if_false]; exact UpK.strong (hup j hj) hj0 (h1p hl0' j hj hl) hx
      · intro j hj hl
        have hsz := hext.size
        have hw0 := h.kp.size
        by_cases e : j = k
        · subst e; simp only [if_true]; omega
        · have := hlh j hj ((getD_set_cases hl).resolve_left e)
          simp only [e, if_false]; omega
      · intro i j hi' hj' hli hlj hne
        by_cases ei : i = k
        · have ej : j ≠ k := fun e => hne (ei.trans e.symm)
          have hl2 := (getD_set_cases hlj).resolve_left ej
          have := hlh j hj' hl2
          subst ei
          simp only [ej, if_false, if_true]
          refine ⟨.inr (by omega), fun hm => ?_⟩
          have := h.cl j (Nat.lt_of_lt_of_le hj' hok.le) hl2 i hm
          rw [h0] at this; cases this
        · by_cases ej : j = k
          · have := hlh i hi' ((getD_set_cases hli).resolve_left ei)
            subst ej
            simp only [ei, if_false, if_true]
            exact ⟨.inl (by omega), fun _ => by omega⟩
          · simp only [ei, ej, if_false]
            exact hap i j hi' hj' ((getD_set_cases hli).resolve_left ei) ((getD_set_cases hlj).resolve_left ej) hne
      · intro j hj hl d hd
        rw [henv]
        by_cases e : j = k
        · subst e
          rw [← hdk, hd]
          simp only [if_true]
          exact upd_at _ _ _
        · simp only [e, if_false]
          have hl' := (getD_set_cases hl).resolve_left e
          cases hok' : o.dst with
          | none => exact h2 j hj hl' d hd
          | some d' =>
            have hne : d ≠ d' := fun h' => e (hok.uniq k hkp j hj d hd (by rw [hdk, hok', h']))
            show upd _ d' _ d = _
            rw [upd_ne _ _ hne]; exact h2 j hj hl' d hd
      · intro t ht
        rw [henv]
        have hnk : dstAt l k ≠ some t := ht k hkp (getD_set_same hksz)
        have hrest := h3 t (fun j hj hl => ht j hj (getD_set_true hl))
        cases hok' : o.dst with
        | none => exact hrest
        | some d' =>
          have hne : t ≠ d' := fun h' => hnk (by rw [hdk, hok', h'])
          show upd _ d' _ t = _
          rw [upd_ne _ _ hne]; exact hrest
    unfold wpOpIn
    have hoa : l.toArray[k]? = some o := by simpa using ho
    simp only [hoa]
    rw [yielded_env]
    split
    · rename_i hw
      rw [if_pos hw] at hob
      refine OpK.upon ?_
      have hob' : OpK P o (envOf a) w (fun v w' => Kp (fun b => k = k0 ∧ T lo hi b) w w' ∧ (rsIf3 k0 k (preS k0 bs k) (rsAt3 rs k) (rsAt3 rp k)).sat v ((v, w.heap.size, w'.heap.size) :: ctxB bs vs lo hi k) w') := by
        unfold OpK at hob ⊢
        rw [ev_congr agree hsel]; exact hob
      exact OpK.mono (fun v w' hk => next v w' hk.1 (UpK.satL (hup k hkp) hk.2) (fun hne => UpK.satP (hup k hkp) hne hk.2)) hob'
    · rename_i hw
      rw [if_neg hw] at hob
      exact ⟨fun _ _ => trivial, next undef w (Kp.refl _ _) (UpK.satL (hup k hkp) hob) (fun hne => UpK.satP (hup k hkp) hne hob)⟩

/-- A REGION THAT DRAWS ITS ORDER: of each of its first p operations, whatever has been carried out ahead of it, what 'rs' says; behind them the rest, in its order. -/
theorem cw_drawK {T0 : Nat → Prop} {T : (Nat → Nat) → (Nat → Nat) → Nat → Prop} {k0 : Nat} {id : Nat} {w : World} (rs rp : List RS3) (bs : List (List Nat)) (p : Nat) (hT0 : ∀ lo hi, (∀ m ∈ bAt bs k0, w.heap.size ≤ lo m) → ∀ k, k < w.heap.size → T lo hi k → T0 k) (hm : P.follows .mixedOrders = true) (hok : okDraw n.size l bs p = true) (hup : ∀ j, j < p → UpK w T k0 bs rs rp j)
    (hobl : ∀ k, k < p → OblK T0 T k0 P l rs rp bs ρ w k)
    (hfin : ∀ w1 vs lo hi, Kp T0 w w1 → knownB3 rs bs vs lo hi w w1 (List.range p).reverse → apart bs lo hi (List.range p).reverse → RL P l.toArray (Q .normal) (l.drop p) (envB3 ρ l rs vs (List.range p).reverse) w1) :
    CW P n (.region id l.toArray true) Q ρ w := fun a hs hd he => by
  have hok' := okDraw_spec hok
  refine wpIn_region_any hm (inv1_soundK (K := Q .normal) (ρ := ρ) (w0 := w) hT0 hok' (fun _ _ h => h) hup hobl hfin _ _ a _ ?_ ?_)
  · have : ∀ m, unl (Array.replicate l.toArray.size false) m ≤ m := by
      intro m
      induction m with
      | zero => exact Nat.le_refl _
      | succ m ih => simp only [unl]; split <;> omega
    simpa using this l.length
  · have hno : ∀ j, (Array.replicate l.toArray.size false).getD j false = false := by
      intro j
      simp only [Array.getD_eq_getD_getElem?, Array.getElem?_replicate]
      split <;> rfl
    refine ⟨by simp, hs, hd, fun m _ hl => ?_, fun k _ _ => hno k, (Kp.refl T0 w).drew, fun _ => (Kp.refl Non w).drew, fun _ => undef, fun _ => 0, fun _ => 0, fun j _ hl => ?_, fun _ j _ hl => ?_, fun j _ hl => ?_, fun i j _ _ hl => ?_, fun j _ hl => ?_, fun t _ => by rw [he]⟩
    · rw [hno m] at hl; cases hl
    · rw [hno j] at hl; cases hl
    · rw [hno j] at hl; cases hl
    · rw [hno j] at hl; cases hl
    · rw [hno i] at hl; cases hl
    · rw [hno j] at hl; cases hl
end
def OblAllK (T0 : Nat → Prop) (T : (Nat → Nat) → (Nat → Nat) → Nat → Prop) (k0 : Nat) (P : Program) (l : List Oper) (rs rp : List RS3) (bs : List (List Nat)) (ρ : Env) (w0 : World) : Nat → Prop
  | 0 => True
  | k + 1 => OblAllK T0 T k0 P l rs rp bs ρ w0 k ∧ OblK T0 T k0 P l rs rp bs ρ w0 k
theorem OblAllK.at {T0 : Nat → Prop} {T : (Nat → Nat) → (Nat → Nat) → Nat → Prop} {k0 : Nat} {P : Program} {l : List Oper} {rs rp : List RS3} {bs : List (List Nat)} {ρ : Env} {w0 : World} : ∀ {p : Nat}, OblAllK T0 T k0 P l rs rp bs ρ w0 p → ∀ k, k < p → OblK T0 T k0 P l rs rp bs ρ w0 k
  | 0, _, k, hk => by omega
  | p + 1, h, k, hk => by
    by_cases e : k = p
    · subst e; exact h.2
    · exact OblAllK.at h.1 k (by omega)
def UpAllK (w0 : World) (T : (Nat → Nat) → (Nat → Nat) → Nat → Prop) (k0 : Nat) (bs : List (List Nat)) : Nat → List RS3 → List RS3 → Prop
  | _, [], [] => True
  | j, s :: rs, s' :: rp => upK w0 T k0 bs j s s' ∧ UpAllK w0 T k0 bs (j + 1) rs rp
  | _, _, _ => False
theorem UpAllK.at {w0 : World} {T : (Nat → Nat) → (Nat → Nat) → Nat → Prop} {k0 : Nat} {bs : List (List Nat)} : ∀ {rs rp : List RS3} {i : Nat}, UpAllK w0 T k0 bs i rs rp → ∀ j, upK w0 T k0 bs (i + j) (rsAt3 rs j) (rsAt3 rp j)
  | [], [], i, _, j => by
    simp only [rsAt3, List.getD_nil]
    unfold upK
    split
    · trivial
    · split
      · exact ⟨trivial, ⟨trivial, trivial⟩, fun _ _ _ h => h⟩
      · split
        · exact ⟨rfl, trivial⟩
        · exact ⟨rfl, trivial, trivial⟩
  | s :: rs, s' :: rp, i, h, 0 => h.1
  | s :: rs, s' :: rp, i, h, j + 1 => by
    have := UpAllK.at h.2 j
    rw [show i + (j + 1) = i + 1 + j by omega]
    simpa [rsAt3] using this
  | [], _ :: _, _, h, _ => h.elim
  | _ :: _, [], _, h, _ => h.elim
section
variable {T0 : Nat → Prop} {T : (Nat → Nat) → (Nat → Nat) → Nat → Prop} {Tx : Nat → Prop} {k0 : Nat} {P : Program} {l : List Oper} {rs rp : List RS3} {bs : List (List Nat)} {ρ : Env} {w0 : World} {k : Nat}
theorem upK_pre {w0 : World} {T : (Nat → Nat) → (Nat → Nat) → Nat → Prop} {k0 j : Nat} {bs : List (List Nat)} {s s' : RS3} (e : Nat.beq j k0 = false) (hc : (bAt bs k0).contains j = true) (h1 : s'.upW Ext) (h2 : s.upW Ext) (h2' : s.upT w0 T k0 bs j) (h3 : ∀ v c w, s'.sat v c w → s.sat v c w) : upK w0 T k0 bs j s s' := by
  unfold upK; rw [if_neg (by rw [e]; decide), if_pos hc]; exact ⟨h1, ⟨h2, h2'⟩, h3⟩
theorem upK_one {w0 : World} {T : (Nat → Nat) → (Nat → Nat) → Nat → Prop} {k0 j : Nat} {bs : List (List Nat)} {s s' : RS3} (e : Nat.beq j k0 = true) (h1 : s.upW Ext) : upK w0 T k0 bs j s s' := by
  unfold upK; rw [if_pos e]; exact h1
theorem upK_no {w0 : World} {T : (Nat → Nat) → (Nat → Nat) → Nat → Prop} {k0 j : Nat} {bs : List (List Nat)} {s : RS3} (e : Nat.beq j k0 = false) (hc : (bAt bs k0).contains j = false) (h2 : s.upW Ext) (h2' : s.upT w0 T k0 bs j) : upK w0 T k0 bs j s s := by
  unfold upK; rw [if_neg (by rw [e]; decide), if_neg (by rw [hc]; decide)]
  split
  · exact ⟨rfl, h2⟩
  · exact ⟨rfl, h2, h2'⟩
theorem upK_aft {w0 : World} {T : (Nat → Nat) → (Nat → Nat) → Nat → Prop} {k0 j : Nat} {bs : List (List Nat)} {s : RS3} (e : Nat.beq j k0 = false) (hc : (bAt bs k0).contains j = false) (hb : (bAt bs j).contains k0 = true) (h2 : s.upW Ext) : upK w0 T k0 bs j s s := by
  unfold upK; rw [if_neg (by rw [e]; decide), if_neg (by rw [hc]; decide), if_pos hb]; exact ⟨rfl, h2⟩
theorem upK_val {w0 : World} {T : (Nat → Nat) → (Nat → Nat) → Nat → Prop} {k0 j : Nat} {bs : List (List Nat)} {v : Value} : upK w0 T k0 bs j (.val v) (.val v) := by
  unfold upK
  split
  · trivial
  · split
    · exact ⟨trivial, ⟨trivial, trivial⟩, fun _ _ _ h => h⟩
    · split
      · exact ⟨rfl, trivial⟩
      · exact ⟨rfl, trivial, trivial⟩
/-- Nothing is written. -/
theorem upT_none {w0 : World} {k0 j : Nat} {bs : List (List Nat)} {s : RS3} (h : s.upW Ext) : s.upT w0 (fun _ _ _ => False) k0 bs j := by
  cases s with
  | val c => trivial
  | fact R => exact fun vs lo hi w w' _ _ hr hk => h _ w w' hr hk
theorem upK_ext {w0 : World} {k0 j : Nat} {bs : List (List Nat)} {s : RS3} (h : s.upW Ext) : upK w0 (fun _ _ _ => False) k0 bs j s s := by
  unfold upK
  split
  · exact h
  · split
    · exact ⟨h, ⟨h, upT_none h⟩, fun _ _ _ h => h⟩
    · split
      · exact ⟨rfl, h⟩
      · exact ⟨rfl, h, upT_none h⟩
/-- ahead of the one that writes -/
theorem oblK_pre {o : Oper} (ho : l[k]? = some o) (hp : preS k0 bs k = true) (h : ∀ w vs lo hi, Ext w0 w → knownB3 rp bs vs lo hi w0 w (bAt bs k) → apart bs lo hi (bAt bs k) → OblOpK (T lo hi) k0 k true (ctxB bs vs lo hi k) P l.toArray o (envB3 ρ l rp vs (bAt bs k)) w (rsAt3 rs k) (rsAt3 rp k)) : OblK T0 T k0 P l rs rp bs ρ w0 k := by
  refine ⟨fun _ w vs lo hi hE hk ha => ?_, fun hn => by rw [hp] at hn; cases hn⟩
  rw [ho, hp]; exact h w vs lo hi hE hk ha
theorem oblK_post {o : Oper} (ho : l[k]? = some o) (hp : preS k0 bs k = false) (h : ∀ w vs lo hi, Kp T0 w0 w → knownB3 rs bs vs lo hi w0 w (bAt bs k) → apart bs lo hi (bAt bs k) → OblOpK (T lo hi) k0 k false (ctxB bs vs lo hi k) P l.toArray o (envB3 ρ l rs vs (bAt bs k)) w (rsAt3 rs k) (rsAt3 rp k)) : OblK T0 T k0 P l rs rp bs ρ w0 k := by
  refine ⟨fun hn => (by rw [hp] at hn; cases hn), fun _ w vs lo hi hE hk ha => ?_⟩
  rw [ho, hp]; exact h w vs lo hi hE hk ha
/-- ahead: it writes nothing -/
theorem oblK_p {cb : List Tld} {ops : Array Oper} {o : Oper} {w : World} {s s' : RS3} (hk : Nat.beq k k0 = false) (hw : Region.wanted o (yieldE ops ρ) = true) (h : OpK P o ρ w (fun v w' => Ext w w' ∧ s'.sat v ((v, w.heap.size, w'.heap.size) :: cb) w')) : OblOpK Tx k0 k true cb P ops o ρ w s s' := by
  have hne : k ≠ k0 := fun e => by subst e; simp at hk
  unfold OblOpK rsIf3; rw [if_pos hw, if_pos ⟨rfl, hne⟩]; exact OpK.mono (fun v w' hk => ⟨Kp.ext hk.1, hk.2⟩) h
theorem oblK_pf {cb : List Tld} {ops : Array Oper} {o : Oper} {w : World} {s s' : RS3} (hk : Nat.beq k k0 = false) (h : s'.sat undef ((undef, w.heap.size, w.heap.size) :: cb) w) (hw : Region.wanted o (yieldE ops ρ) = false) : OblOpK Tx k0 k true cb P ops o ρ w s s' := by
  have hne : k ≠ k0 := fun e => by subst e; simp at hk
  unfold OblOpK rsIf3; rw [if_neg (by rw [hw]; decide), if_pos ⟨rfl, hne⟩]; exact h
/-- the one that writes -/
theorem oblK_s {cb : List Tld} {ops : Array Oper} {o : Oper} {w : World} {s s' : RS3} (hw : Region.wanted o (yieldE ops ρ) = true) (h : OpK P o ρ w (fun v w' => Kp Tx w w' ∧ s.sat v ((v, w.heap.size, w'.heap.size) :: cb) w')) : OblOpK Tx k k true cb P ops o ρ w s s' := by
  unfold OblOpK rsIf3; rw [if_pos hw, if_neg (by simp)]; exact OpK.mono (fun v w' hk => ⟨hk.1.mono (fun b _ hb => ⟨rfl, hb⟩), hk.2⟩) h
/-- not ahead: it writes nothing -/
theorem oblK_n {cb : List Tld} {ops : Array Oper} {o : Oper} {w : World} {s s' : RS3} (hw : Region.wanted o (yieldE ops ρ) = true) (h : OpK P o ρ w (fun v w' => Ext w w' ∧ s.sat v ((v, w.heap.size, w'.heap.size) :: cb) w')) : OblOpK Tx k0 k false cb P ops o ρ w s s' := by
  unfold OblOpK rsIf3; rw [if_pos hw, if_neg (by simp)]; exact OpK.mono (fun v w' hk => ⟨Kp.ext hk.1, hk.2⟩) h
theorem oblK_nf {cb : List Tld} {ops : Array Oper} {o : Oper} {w : World} {s s' : RS3} (h : s.sat undef ((undef, w.heap.size, w.heap.size) :: cb) w) (hw : Region.wanted o (yieldE ops ρ) = false) : OblOpK Tx k0 k false cb P ops o ρ w s s' := by
  unfold OblOpK rsIf3; rw [if_neg (by rw [hw]; decide), if_neg (by simp)]; exact h
end
theorem cw_drawnK {P : Program} {n : Cx} {l : List Oper} {ρ : Env} {Q : Exit → Env → World → Prop} {id : Nat} {w : World} {y : Code} (T0 : Nat → Prop) (T : (Nat → Nat) → (Nat → Nat) → Nat → Prop) (k0 : Nat) (rs rp : List RS3) (bs : List (List Nat)) (p : Nat) (hm : P.follows .mixedOrders = true) (hok : okDraw n.size l bs p = true) (hT0 : ∀ lo hi, (∀ m ∈ bAt bs k0, w.heap.size ≤ lo m) → ∀ k, k < w.heap.size → T lo hi k → T0 k) (hup : UpAllK w T k0 bs 0 rs rp)
    (hobl : OblAllK T0 T k0 P l rs rp bs ρ w p)
    (hfin : ∀ w1 vs lo hi, Kp T0 w w1 → knownB3 rs bs vs lo hi w w1 (List.range p).reverse → apart bs lo hi (List.range p).reverse → RL P l.toArray (fun ρ w => CW P n y Q ρ w) (l.drop p) (envB3 ρ l rs vs (List.range p).reverse) w1) :
    CW P n (.seq (.region id l.toArray true) y) Q ρ w := cw_seq (cw_drawK (T0 := T0) (T := T) (k0 := k0) rs rp bs p hT0 hm hok (fun j _ => by have := hup.at j; rw [Nat.zero_add] at this; exact this) (fun k hk => hobl.at k hk) hfin)
theorem cw_drawnK1 {P : Program} {n : Cx} {l : List Oper} {ρ : Env} {Q : Exit → Env → World → Prop} {id : Nat} {w : World} (T0 : Nat → Prop) (T : (Nat → Nat) → (Nat → Nat) → Nat → Prop) (k0 : Nat) (rs rp : List RS3) (bs : List (List Nat)) (p : Nat) (hm : P.follows .mixedOrders = true) (hok : okDraw n.size l bs p = true) (hT0 : ∀ lo hi, (∀ m ∈ bAt bs k0, w.heap.size ≤ lo m) → ∀ k, k < w.heap.size → T lo hi k → T0 k) (hup : UpAllK w T k0 bs 0 rs rp)
    (hobl : OblAllK T0 T k0 P l rs rp bs ρ w p)
    (hfin : ∀ w1 vs lo hi, Kp T0 w w1 → knownB3 rs bs vs lo hi w w1 (List.range p).reverse → apart bs lo hi (List.range p).reverse → RL P l.toArray (Q .normal) (l.drop p) (envB3 ρ l rs vs (List.range p).reverse) w1) :
    CW P n (.region id l.toArray true) Q ρ w := cw_drawK (T0 := T0) (T := T) (k0 := k0) rs rp bs p hT0 hm hok (fun j _ => by have := hup.at j; rw [Nat.zero_add] at this; exact this) (fun k hk => hobl.at k hk) hfin

def cv (c : List Tld) (i : Nat) : Value := (c.getD i (undef, 0, 0)).1
def ca (c : List Tld) (i : Nat) : Nat := (c.getD i (undef, 0, 0)).2.1
def ce (c : List Tld) (i : Nat) : Nat := (c.getD i (undef, 0, 0)).2.2
section ops
variable {P : Program} {ρ : Env} {w : World} {K : Value → World → Prop} {dst : Option Tmp} {ty : TypeId} {pos : String} {aft : Array Edge} {gd : Option (Nat × Bool)}
theorem o_eqlT {t t' : TypeId} {x y : Operand} {k : IntKind} {a b : Int} (hx : ev ρ x = .int k a) (hy : ev ρ y = .int k b) (h : a = b) (hk : K (.bool true) w) : OpK P ⟨dst, .binOp .eql t x y t', ty, pos, aft, gd⟩ ρ w K :=
  o_eql hx hy (by rw [decide_eq_true h]; exact hk)
theorem o_neqT {t t' : TypeId} {x y : Operand} {k : IntKind} {a b : Int} (hx : ev ρ x = .int k a) (hy : ev ρ y = .int k b) (h : a = b) (hk : K (.bool false) w) : OpK P ⟨dst, .binOp .neq t x y t', ty, pos, aft, gd⟩ ρ w K :=
  o_neq hx hy (by rw [decide_eq_false (by simpa using h)]; exact hk)
theorem o_eqlB {t t' : TypeId} {x y : Operand} {a b : Bool} (hx : ev ρ x = .bool a) (hy : ev ρ y = .bool b) (ht : P.underlying t = some .bool) (hk : K (.bool (a == b)) w) : OpK P ⟨dst, .binOp .eql t x y t', ty, pos, aft, gd⟩ ρ w K := by
  have hg : (eqGuard .eql t x y (.bool a) (.bool b)).run P w = .ok () w := by unfold eqGuard; rfl
  have e1 : binOp .eql t (.bool a) (.bool b) = (do pure (.bool (← Op.equal t (.bool a) (.bool b)))) := rfl
  have h3 : ∀ d : Nat, (Op.equalIn (d + 1) t (.bool a) (.bool b)).run P w = .ok (a == b) w := by
    intro d; simp [Op.equalIn, run_underlying ht]
  have h4 : (Op.equal t (.bool a) (.bool b)).run P w = .ok (a == b) w := h3 9999
  simp only [OpK, execOp, hx, hy]
  simp only [Sem.run_bind, hg, e1, h4, OpU, Result.andThen, Sem.run_pure]
  exact hk
end ops
/-! what values bear -/
def sAo : Value → Option Addr
  | .slice a _ _ => a
  | _ => none
def sLen : Value → Nat
  | .slice _ n _ => n
  | _ => 0
def sCap : Value → Nat
  | .slice _ _ c => c
  | _ => 0
def pBlk : Value → Nat
  | .pointer (some a) => a.block
  | _ => 0
def iVal : Value → Int
  | .int _ n => n
  | _ => 0
def bVal : Value → Bool
  | .bool b => b
  | _ => false
def sVal : Value → ByteArray
  | .string s => s
  | _ => .empty
def mVal : Value → Nat
  | .map (some r) => r
  | _ => 0
def tAt : Value → Nat → Value
  | .tuple vs, i => vs.getD i undef
  | .agg vs, i => vs.getD i undef
  | _, _ => undef
end Go.Proofs.YtcmlklnelipacaaDoor

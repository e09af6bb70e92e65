import Derived.Test.YtcmlklnelipacaaDoorLogH
import Derived.Laws.BytesString
import Derived.Laws.Strings
/- Regions that draw their order, one of whose operations writes: what is known ahead of it, and what abides. Strings. -/
set_option linter.unusedVariables false
set_option linter.unusedSimpArgs false
namespace Go.Proofs.YtcmlklnelipacaaDoor
open Go.RowKit
/-- Is an operation carried out ahead of k0 in every order, or k0 itself? -/
def preS (k0 : Nat) (bs : List (List Nat)) (k : Nat) : Bool := Nat.beq k k0 || (bAt bs k0).contains k
theorem preS_spec {k0 k : Nat} {bs : List (List Nat)} : preS k0 bs k = true ↔ k = k0 ∨ k ∈ bAt bs k0 := by
  simp [preS]
/-- What an operation leaves is told by the strong list where it is ahead of k0. -/
def rsIf (k0 k : Nat) (pre : Bool) (s s' : RS) : RS := if pre = true ∧ k ≠ k0 then s' else s
def OblOpS (T : Nat → Prop) (k0 k : Nat) (pre : Bool) (P : Program) (ops : Array Oper) (o : Oper) (ρ : Env) (w : World) (s s' : RS) : Prop :=
  if Region.wanted o (yieldE ops ρ) then OpK P o ρ w (fun v w' => Kp (fun b => k = k0 ∧ T b) w w' ∧ (rsIf k0 k pre s s').sat v w') else (rsIf k0 k pre s s').sat undef w
def OblS (T : Nat → Prop) (k0 : Nat) (P : Program) (l : List Oper) (rs rp : List RS) (bs : List (List Nat)) (ρ : Env) (w0 : World) (k : Nat) : Prop :=
  (preS k0 bs k = true → ∀ w vs, Ext w0 w → knownB rp vs w (bAt bs k) → match l[k]? with
    | some o => OblOpS T k0 k (preS k0 bs k) P l.toArray o (envB ρ l rp vs (bAt bs k)) w (rsAt rs k) (rsAt rp k)
    | none => True) ∧
  (preS k0 bs k = false → ∀ w vs, Kp T w0 w → knownB rs vs w (bAt bs k) → match l[k]? with
    | some o => OblOpS T k0 k (preS k0 bs k) P l.toArray o (envB ρ l rs vs (bAt bs k)) w (rsAt rs k) (rsAt rp k)
    | none => True)
/-- How facts abide. -/
def upS (T : Nat → Prop) (k0 : Nat) (bs : List (List Nat)) (j : Nat) (s s' : RS) : Prop :=
  if Nat.beq j k0 then s.upW Ext else if (bAt bs k0).contains j then s'.upW Ext ∧ s.upW (Kp T) ∧ (∀ v w, s'.sat v w → s.sat v w) else if (bAt bs j).contains k0 then s' = s ∧ s.upW Ext else s' = s ∧ s.upW (Kp T)
def UpS (T : Nat → Prop) (k0 : Nat) (bs : List (List Nat)) (rs rp : List RS) (j : Nat) : Prop := upS T k0 bs j (rsAt rs j) (rsAt rp j)
theorem upW_ext {s : RS} {T : Nat → Prop} (h : s.upW (Kp T)) : s.upW Ext := by
  cases s with
  | val c => trivial
  | fact R => exact fun v w w' hr hk => h v w w' hr (Kp.ext hk)
theorem UpS.later {T : Nat → Prop} {k0 : Nat} {bs : List (List Nat)} {rs rp : List RS} {j k : Nat} (h : UpS T k0 bs rs rp j) (hne : k ≠ j) (hb : k = k0 → k0 ∉ bAt bs j) {v : Value} {w w' : World} (hs : (rsAt rs j).sat v w) (hk : Kp (fun b => k = k0 ∧ T b) w w') : (rsAt rs j).sat v w' := by
  unfold UpS upS at h
  split at h
  · rename_i e
    have e := Nat.eq_of_beq_eq_true e
    exact RS.sat_upW h hs (hk.mono (fun _ _ hb => absurd (hb.1.trans e.symm) hne))
  · split at h
    · exact RS.sat_upW h.2.1 hs (hk.mono (fun _ _ hb => hb.2))
    · split at h
      · rename_i hc
        exact RS.sat_upW h.2 hs (hk.mono (fun _ _ hx => absurd (by simpa using hc) (hb hx.1)))
      · exact RS.sat_upW h.2 hs (hk.mono (fun _ _ hb => hb.2))
theorem UpS.strong {T : Nat → Prop} {k0 : Nat} {bs : List (List Nat)} {rs rp : List RS} {j : Nat} (h : UpS T k0 bs rs rp j) (hne : j ≠ k0) {v : Value} {w w' : World} (hs : (rsAt rp j).sat v w) (hk : Ext w w') : (rsAt rp j).sat v w' := by
  unfold UpS upS at h
  split at h
  · rename_i e; exact absurd (Nat.eq_of_beq_eq_true e) hne
  · split at h
    · exact RS.sat_upW h.1 hs hk
    · split at h
      · rw [h.1] at hs ⊢; exact RS.sat_upW h.2 hs hk
      · rw [h.1] at hs ⊢; exact RS.sat_upW (upW_ext h.2) hs hk
theorem UpS.satL {T : Nat → Prop} {k0 : Nat} {bs : List (List Nat)} {rs rp : List RS} {k : Nat} (h : UpS T k0 bs rs rp k) {v : Value} {w : World} (hs : (rsIf k0 k (preS k0 bs k) (rsAt rs k) (rsAt rp k)).sat v w) : (rsAt rs k).sat v w := by
  unfold rsIf at hs
  unfold UpS upS at h
  split at h
  · rename_i e; rw [if_neg (fun hc => hc.2 (Nat.eq_of_beq_eq_true e))] at hs; exact hs
  · rename_i e
    have hne : k ≠ k0 := fun e' => e (by subst e'; simp)
    split at h
    · rename_i hc
      have hm : k ∈ bAt bs k0 := by simpa using hc
      rw [if_pos ⟨preS_spec.2 (.inr hm), hne⟩] at hs; exact h.2.2 v w hs
    · have h1 : rsAt rp k = rsAt rs k := by split at h <;> exact h.1
      split at hs
      · rw [h1] at hs; exact hs
      · exact hs
theorem UpS.satP {T : Nat → Prop} {k0 : Nat} {bs : List (List Nat)} {rs rp : List RS} {k : Nat} (h : UpS T k0 bs rs rp k) (hne : k ≠ k0) {v : Value} {w : World} (hs : (rsIf k0 k (preS k0 bs k) (rsAt rs k) (rsAt rp k)).sat v w) : (rsAt rp k).sat v w := by
  unfold rsIf at hs
  unfold UpS upS at h
  split at h
  · rename_i e; exact absurd (Nat.eq_of_beq_eq_true e) hne
  · split at h
    · rename_i hc
      have hm : k ∈ bAt bs k0 := by simpa using hc
      rw [if_pos ⟨preS_spec.2 (.inr hm), hne⟩] at hs; exact hs
    · have h1 : rsAt rp k = rsAt rs k := by split at h <;> exact h.1
      split at hs
      · exact hs
      · rw [h1]; exact hs
section
variable {P : Program} {n : Cx} {l : List Oper} {rs rp : List RS} {bs : List (List Nat)} {p : Nat} {ρ : Env} {w0 : World} {K : Env → World → Prop} {Q : Exit → Env → World → Prop}
structure Inv1S (T : Nat → Prop) (k0 : Nat) (l : List Oper) (rs rp : List RS) (bs : List (List Nat)) (p : Nat) (n : Cx) (ρ : Env) (w0 : World) (L : Array Bool) (a : Act) (w : World) : Prop where
  sz : L.size = l.length
  ts : a.tmps.size = n.size
  ds : a.defers = n.ds
  cl : ∀ m, m < l.length → L.getD m false = true → ∀ j ∈ bAt bs m, L.getD j false = true
  un : ∀ k, k < l.length → p ≤ k → L.getD k false = false
  kp : Kp T w0 w
  kx : L.getD k0 false = false → Ext w0 w
  ex : ∃ vs : Nat → Value, (∀ j, j < p → L.getD j false = true → (rsAt rs j).sat (vs j) w) ∧ (L.getD k0 false = false → ∀ j, j < p → L.getD j false = true → (rsAt rp j).sat (vs j) w) ∧ (∀ j, j < p → L.getD j false = true → ∀ d, dstAt l j = some d → envOf a d = vs j) ∧
    (∀ t, (∀ j, j < p → L.getD j false = true → dstAt l j ≠ some t) → envOf a t = ρ t)
theorem inv1_soundS {T : Nat → Prop} {k0 : Nat} (hok : OkDraw n.size l bs p) (hK : ∀ ρ w, K ρ w → Q .normal ρ w) (hup : ∀ j, j < p → UpS T k0 bs rs rp j) (hobl : ∀ k, k < p → OblS T k0 P l rs rp bs ρ w0 k)
    (hfin : ∀ w vs, Kp T w0 w → knownB rs vs w (List.range p).reverse → RL P l.toArray K (l.drop p) (envB ρ l rs vs (List.range p).reverse) w) :
    ∀ (fuel : Nat) (L : Array Bool) (a : Act) (w : World), unl L l.length ≤ fuel → Inv1S T k0 l rs rp bs p n ρ w0 L a w → wpAnyIn (fence n.ro) 1 P .any l.toArray (QA n Q) fuel L a w := by
  -- all p are through
  have turn : ∀ (L : Array Bool) (a : Act) (w : World), Inv1S T k0 l rs rp bs p n ρ w0 L a w → (∀ j, j < p → L.getD j false = true) → Inv2 P l n K p L a w := by
    intro L a w h hall
    obtain ⟨vs, h1, h1p, h2, h3⟩ := h.ex
    have he : envOf a = envB ρ l rs vs (List.range p).reverse := by
      funext t
      by_cases hc : ∃ j, j < p ∧ dstAt l j = some t
      · obtain ⟨j, hj, hd⟩ := hc
        rw [envB_hit (j := j) _ (by simpa using hj) hd (fun i hi hdi => hok.uniq j hj i (by simpa using hi) t hdi hd), h2 j hj (hall j hj) t hd, RS.sat_of (h1 j hj (hall j hj))]
      · rw [envB_miss _ (fun j hj hd => hc ⟨j, by simpa using hj, hd⟩)]
        exact h3 t (fun j hj _ hd => hc ⟨j, hj, hd⟩)
    refine ⟨h.sz, h.ts, h.ds, fun j hj => ⟨fun hl => ?_, fun hlt => hall j hlt⟩, ?_⟩
    · by_cases hc : j < p
      · exact hc
      · have := h.un j hj (by omega); rw [this] at hl; cases hl
    · rw [he]; exact hfin w vs h.kp (knownB_of _ (fun j hj => h1 j (by simpa using hj) (hall j (by simpa using hj))))
  intro fuel
  have fin : ∀ (L : Array Bool) (a : Act) (w : World), Inv1S T k0 l rs rp bs p n ρ w0 L a w → Region.ready .any l.toArray L = [] → QA n Q .normal a w := by
    intro L a w h hr
    have hall := ready_all hok h.sz hr
    have hI := turn L a w h (fun j hj => hall j (Nat.lt_of_lt_of_le hj hok.le))
    have hp : l.length ≤ p := by
      by_cases hlt : p < l.length
      · have := (hI.up p hlt).1 (hall p hlt); omega
      · omega
    have h2 := hI.rl
    rw [List.drop_eq_nil_of_le hp] at h2
    exact .inl ⟨h.ts, h.ds, hK _ _ h2⟩
  induction fuel with
  | zero =>
    intro L a w hf h
    have hz := unl_zero (L := L) l.length (by omega)
    have hr : Region.ready .any l.toArray L = [] := by
      rw [List.eq_nil_iff_forall_not_mem]
      intro i hi
      obtain ⟨h0, o, ho, _⟩ := mem_ready.1 hi
      have hlt : i < l.length := by simpa using (Array.getElem?_eq_some_iff.1 ho).1
      rw [hz i hlt] at h0
      cases h0
    exact ⟨hr, fin L a w h hr⟩
  | succ fuel ih =>
    intro L a w hf h
    by_cases hcase : ∀ j, j < p → L.getD j false = true
    · exact inv2_sound hok hK (fuel + 1) p L a w (Nat.le_refl _) hf (turn L a w h hcase)
    refine ⟨fin L a w h, fun k hk => ?_⟩
    obtain ⟨o, ho, hlt, h0, h0', hb⟩ := ready_b hok h.cl hk
    have hkp : k < p := by
      by_cases hc : k < p
      · exact hc
      · exact absurd (fun j hj => hb j (hok.tail k hlt (by omega) j (by omega))) hcase
    obtain ⟨vs, h1, h1p, h2, h3⟩ := h.ex
    have hbp : ∀ j ∈ bAt bs k, j < p := fun j hj => by have := hok.blt k hlt j hj; omega
    have hk0 : preS k0 bs k = true → L.getD k0 false = false := by
      intro hp
      rcases preS_spec.1 hp with rfl | hp
      · exact h0
      · by_cases hc : L.getD k0 false = true
        · have hlt0 : k0 < l.length := by
            by_cases hlt : k0 < l.length
            · exact hlt
            · rw [← h.sz] at hlt; simp [hlt] at hc
          have := h.cl k0 hlt0 hc k hp
          rw [h0] at this; cases this
        · simpa using hc
    obtain ⟨rq, hrq, hob⟩ : ∃ rq : List RS, (∀ j ∈ bAt bs k, (rsAt rq j).sat (vs j) w) ∧ OblOpS T k0 k (preS k0 bs k) P l.toArray o (envB ρ l rq vs (bAt bs k)) w (rsAt rs k) (rsAt rp k) := by
      by_cases hp : preS k0 bs k = true
      · have hl0 := hk0 hp
        have hob := (hobl k hkp).1 hp w vs (h.kx hl0) (knownB_of _ (fun j hj => h1p hl0 j (hbp j hj) (hb j hj)))
        simp only [ho] at hob
        exact ⟨rp, fun j hj => h1p hl0 j (hbp j hj) (hb j hj), hob⟩
      · have hp' : preS k0 bs k = false := by simpa using hp
        have hob := (hobl k hkp).2 hp' w vs h.kp (knownB_of _ (fun j hj => h1 j (hbp j hj) (hb j hj)))
        simp only [ho] at hob
        exact ⟨rs, fun j hj => h1 j (hbp j hj) (hb j hj), hob⟩
    -- the two environments agree where the operation looks
    have agree : ∀ t ∈ o.looksAt l.toArray, envOf a t = envB ρ l rq vs (bAt bs k) t := by
      intro t ht
      by_cases hc : ∃ j, j < p ∧ dstAt l j = some t
      · obtain ⟨j, hj, hd⟩ := hc
        by_cases hl : L.getD j false = true
        · have hjb : j ∈ bAt bs k := by
            rcases hok.look k o ho hkp j hj t hd ht with h5 | h5 | h5
            · exact h5
            · have := h.cl j (Nat.lt_of_lt_of_le hj hok.le) hl k h5
              rw [h0] at this; cases this
            · subst h5; rw [h0] at hl; cases hl
          rw [h2 j hj hl t hd, envB_hit (j := j) _ hjb hd (fun i hi hdi => hok.uniq j hj i (hbp i hi) t hdi hd), RS.sat_of (hrq j hjb)]
        · rw [h3 t (fun i hi hli hdi => by
            have := hok.uniq j hj i hi t hdi hd
            subst this; exact hl hli), envB_miss _ (fun i hi hdi => by
            have := hok.uniq j hj i (hbp i hi) t hdi hd
            subst this; exact hl (hb _ hi))]
      · rw [h3 t (fun j hj _ hd => hc ⟨j, hj, hd⟩), envB_miss _ (fun j hj hd => hc ⟨j, hbp j hj, hd⟩)]
    have hsel : ∀ cs b, o.op ≠ .select cs b := fun cs b => Region.noSelect_spec hok.sel k o cs b (by simpa using ho)
    unfold OblOpS at hob
    rw [← wanted_congrE agree] at hob
    have hdst := List.all_eq_true.1 hok.dst o (List.mem_of_getElem? ho)
    have hunl : unl (L.setIfInBounds k true) l.length ≤ fuel := by
      have := unl_set (L := L) (i := k) l.length
      rw [if_pos ⟨hlt, h0'⟩] at this
      omega
    have hdk : dstAt l k = o.dst := by simp [dstAt, ho]
    have hksz : k < L.size := by rw [h.sz]; exact hlt
    have next : ∀ v w', Kp (fun b => k = k0 ∧ T b) w w' → (rsAt rs k).sat v w' → (k ≠ k0 → (rsAt rp k).sat v w') → wpAnyIn (fence n.ro) 1 P .any l.toArray (QA n Q) fuel (L.setIfInBounds k true) (a.put o.dst v) w' := by
      intro v w' hext hsat hsatp
      have henv : envOf (a.put o.dst v) = updO (envOf a) o.dst v := envOf_put _ _ _ (fun d e => by rw [h.ts]; exact dstOk_spec hdst d e)
      refine ih _ _ _ hunl ⟨by simpa using h.sz, (put_size _ _ _).trans h.ts, (put_defs _ _ _).trans h.ds, ?_, ?_, h.kp.trans (hext.mono (fun _ _ h => h.2)), ?_, fun j => if j = k then v else vs j, ?_, ?_, ?_, ?_⟩
      · intro m hm hl j hj
        rcases getD_set_cases hl with rfl | hl
        · exact getD_set_true (hb j hj)
        · exact getD_set_true (h.cl m hm hl j hj)
      · intro j hj hpj
        rw [getD_set_ne false (by omega)]; exact h.un j hj hpj
      · intro hl
        by_cases e : k = k0
        · subst e; rw [getD_set_same hksz] at hl; cases hl
        · rw [getD_set_ne false e] at hl
          exact (h.kx hl).trans (hext.mono (fun _ _ hb => absurd hb.1 e))
      · intro j hj hl
        rcases getD_set_cases hl with rfl | hl
        · simp only [if_true]; exact hsat
        · by_cases e : j = k
          · subst e; simp only [if_true]; exact hsat
          · simp only [e, if_false]; exact UpS.later (hup j hj) (fun h' => e h'.symm) (fun hkk hm => by
              have := h.cl j (Nat.lt_of_lt_of_le hj hok.le) hl k0 hm
              rw [← hkk, h0] at this; cases this) (h1 j hj hl) hext
      · intro hl0 j hj hl
        have hkk : k ≠ k0 := fun e => by subst e; rw [getD_set_same hksz] at hl0; cases hl0
        have hl0' : L.getD k0 false = false := by rw [getD_set_ne false hkk] at hl0; exact hl0
        have hx : Ext w w' := hext.mono (fun _ _ hb => absurd hb.1 hkk)
        rcases getD_set_cases hl with rfl | hl
        · simp only [if_true]; exact hsatp hkk
        · by_cases e : j = k
          · subst e; simp only [if_true]; exact hsatp hkk
          · have hj0 : j ≠ k0 := fun e => by subst e; rw [hl0'] at hl; cases hl
            simp only [e, if_false]; exact UpS.strong (hup j hj) hj0 (h1p hl0' j hj hl) hx
      · intro j hj hl d hd
        rw [henv]
        by_cases e : j = k
        · subst e
          rw [← hdk, hd]
          simp only [if_true]
          exact upd_at _ _ _
        · simp only [e, if_false]
          have hl' := (getD_set_cases hl).resolve_left e
          cases hok' : o.dst with
          | none => exact h2 j hj hl' d hd
          | some d' =>
            have hne : d ≠ d' := fun h' => e (hok.uniq k hkp j hj d hd (by rw [hdk, hok', h']))
            show upd _ d' _ d = _
            rw [upd_ne _ _ hne]; exact h2 j hj hl' d hd
      · intro t ht
        rw [henv]
        have hnk : dstAt l k ≠ some t := ht k hkp (getD_set_same hksz)
        have hrest := h3 t (fun j hj hl => ht j hj (getD_set_true hl))
        cases hok' : o.dst with
        | none => exact hrest
        | some d' =>
          have hne : t ≠ d' := fun h' => hnk (by rw [hdk, hok', h'])
          show upd _ d' _ t = _
          rw [upd_ne _ _ hne]; exact hrest
    unfold wpOpIn
    have hoa : l.toArray[k]? = some o := by simpa using ho
    simp only [hoa]
    rw [yielded_env]
    split
    · rename_i hw
      rw [if_pos hw] at hob
      refine OpK.upon ?_
      have hob' : OpK P o (envOf a) w (fun v w' => Kp (fun b => k = k0 ∧ T b) w w' ∧ (rsIf k0 k (preS k0 bs k) (rsAt rs k) (rsAt rp k)).sat v w') := by
        unfold OpK at hob ⊢
        rw [ev_congr agree hsel]; exact hob
      exact OpK.mono (fun v w' hk => next v w' hk.1 (UpS.satL (hup k hkp) hk.2) (fun hne => UpS.satP (hup k hkp) hne hk.2)) hob'
    · rename_i hw
      rw [if_neg hw] at hob
      exact ⟨fun _ _ => trivial, next undef w (Kp.refl _ _) (UpS.satL (hup k hkp) hob) (fun hne => UpS.satP (hup k hkp) hne hob)⟩

/-- A REGION THAT DRAWS ITS ORDER: of each of its first p operations, whatever has been carried out ahead of it, what 'rs' says; behind them the rest, in its order. -/
theorem cw_drawS {T : Nat → Prop} {k0 : Nat} {id : Nat} {w : World} (rs rp : List RS) (bs : List (List Nat)) (p : Nat) (hm : P.follows .mixedOrders = true) (hok : okDraw n.size l bs p = true) (hup : ∀ j, j < p → UpS T k0 bs rs rp j)
    (hobl : ∀ k, k < p → OblS T k0 P l rs rp bs ρ w k)
    (hfin : ∀ w1 vs, Kp T w w1 → knownB rs vs w1 (List.range p).reverse → RL P l.toArray (Q .normal) (l.drop p) (envB ρ l rs vs (List.range p).reverse) w1) :
    CW P n (.region id l.toArray true) Q ρ w := fun a hs hd he => by
  have hok' := okDraw_spec hok
  refine wpIn_region_any hm (inv1_soundS (K := Q .normal) (ρ := ρ) (w0 := w) hok' (fun _ _ h => h) hup hobl hfin _ _ a _ ?_ ?_)
  · have : ∀ m, unl (Array.replicate l.toArray.size false) m ≤ m := by
      intro m
      induction m with
      | zero => exact Nat.le_refl _
      | succ m ih => simp only [unl]; split <;> omega
    simpa using this l.length
  · have hno : ∀ j, (Array.replicate l.toArray.size false).getD j false = false := by
      intro j
      simp only [Array.getD_eq_getD_getElem?, Array.getElem?_replicate]
      split <;> rfl
    refine ⟨by simp, hs, hd, fun m _ hl => ?_, fun k _ _ => hno k, (Kp.refl T w).drew, fun _ => (Kp.refl Non w).drew, fun _ => undef, fun j _ hl => ?_, fun _ j _ hl => ?_, fun j _ hl => ?_, fun t _ => by rw [he]⟩
    · rw [hno m] at hl; cases hl
    · rw [hno j] at hl; cases hl
    · rw [hno j] at hl; cases hl
    · rw [hno j] at hl; cases hl
end
def OblAllS (T : Nat → Prop) (k0 : Nat) (P : Program) (l : List Oper) (rs rp : List RS) (bs : List (List Nat)) (ρ : Env) (w0 : World) : Nat → Prop
  | 0 => True
  | k + 1 => OblAllS T k0 P l rs rp bs ρ w0 k ∧ OblS T k0 P l rs rp bs ρ w0 k
theorem OblAllS.at {T : Nat → Prop} {k0 : Nat} {P : Program} {l : List Oper} {rs rp : List RS} {bs : List (List Nat)} {ρ : Env} {w0 : World} : ∀ {p : Nat}, OblAllS T k0 P l rs rp bs ρ w0 p → ∀ k, k < p → OblS T k0 P l rs rp bs ρ w0 k
  | 0, _, k, hk => by omega
  | p + 1, h, k, hk => by
    by_cases e : k = p
    · subst e; exact h.2
    · exact OblAllS.at h.1 k (by omega)
def UpAllS (T : Nat → Prop) (k0 : Nat) (bs : List (List Nat)) : Nat → List RS → List RS → Prop
  | _, [], [] => True
  | j, s :: rs, s' :: rp => upS T k0 bs j s s' ∧ UpAllS T k0 bs (j + 1) rs rp
  | _, _, _ => False
theorem UpAllS.at {T : Nat → Prop} {k0 : Nat} {bs : List (List Nat)} : ∀ {rs rp : List RS} {i : Nat}, UpAllS T k0 bs i rs rp → ∀ j, upS T k0 bs (i + j) (rsAt rs j) (rsAt rp j)
  | [], [], i, _, j => by
    simp only [rsAt, List.getD_nil]
    unfold upS
    split
    · trivial
    · split
      · exact ⟨trivial, trivial, fun _ _ h => h⟩
      · split <;> exact ⟨rfl, trivial⟩
  | s :: rs, s' :: rp, i, h, 0 => h.1
  | s :: rs, s' :: rp, i, h, j + 1 => by
    have := UpAllS.at h.2 j
    rw [show i + (j + 1) = i + 1 + j by omega]
    simpa [rsAt] using this
  | [], _ :: _, _, h, _ => h.elim
  | _ :: _, [], _, h, _ => h.elim
section
variable {T : Nat → Prop} {k0 : Nat} {P : Program} {l : List Oper} {rs rp : List RS} {bs : List (List Nat)} {ρ : Env} {w0 : World} {k : Nat}
theorem upS_pre {T : Nat → Prop} {k0 j : Nat} {bs : List (List Nat)} {s s' : RS} (e : Nat.beq j k0 = false) (hc : (bAt bs k0).contains j = true) (h1 : s'.upW Ext) (h2 : s.upW (Kp T)) (h3 : ∀ v w, s'.sat v w → s.sat v w) : upS T k0 bs j s s' := by
  unfold upS; rw [if_neg (by rw [e]; decide), if_pos hc]; exact ⟨h1, h2, h3⟩
theorem upS_one {T : Nat → Prop} {k0 j : Nat} {bs : List (List Nat)} {s s' : RS} (e : Nat.beq j k0 = true) (h1 : s.upW Ext) : upS T k0 bs j s s' := by
  unfold upS; rw [if_pos e]; exact h1
theorem upS_no {T : Nat → Prop} {k0 j : Nat} {bs : List (List Nat)} {s : RS} (e : Nat.beq j k0 = false) (hc : (bAt bs k0).contains j = false) (h2 : s.upW (Kp T)) : upS T k0 bs j s s := by
  unfold upS; rw [if_neg (by rw [e]; decide), if_neg (by rw [hc]; decide)]
  split
  · exact ⟨rfl, upW_ext h2⟩
  · exact ⟨rfl, h2⟩
theorem upS_aft {T : Nat → Prop} {k0 j : Nat} {bs : List (List Nat)} {s : RS} (e : Nat.beq j k0 = false) (hc : (bAt bs k0).contains j = false) (hb : (bAt bs j).contains k0 = true) (h2 : s.upW Ext) : upS T k0 bs j s s := by
  unfold upS; rw [if_neg (by rw [e]; decide), if_neg (by rw [hc]; decide), if_pos hb]; exact ⟨rfl, h2⟩
theorem own_box_ne {w : World} {base size n b : Nat} {e T' : TypeId} {v : Value} {xs cs : List Value} (h : w.ownsRow base e size v n xs) (hB : Box w b cs T') (hT : T' ≠ e) : ∀ k, some k = v.ownBlock → k ≠ b := by
  rintro k hk rfl
  obtain ⟨_, _, cur, hc⟩ := own_lt h k hk
  unfold Box at hB
  rw [hB] at hc
  simp at hc
  exact hT hc.2
theorem own_kpB {S : Nat → Prop} {w w' : World} {base : Nat} {e : TypeId} {size n : Nat} {v : Value} {xs : List Value} (h : w.ownsRow base e size v n xs) (hk : Kp S w w') (hs : ∀ b, some b = v.ownBlock → ¬ S b) : w'.ownsRow base e size v n xs := by
  obtain ⟨h1, h2⟩ := h
  refine ⟨h1, ?_⟩
  rcases h2 with h2 | ⟨g, cap, cur, hv, hb, hh, r⟩
  · exact .inl h2
  · have hg := (Array.getElem?_eq_some_iff.1 hh).1
    exact .inr ⟨g, cap, cur, hv, hb, (hk.block g hg (hs g (by rw [hv]; rfl))).trans hh, r⟩
/-- ahead of the one that writes -/
theorem oblS_pre {o : Oper} (ho : l[k]? = some o) (hp : preS k0 bs k = true) (h : ∀ w vs, Ext w0 w → knownB rp vs w (bAt bs k) → OblOpS T k0 k true P l.toArray o (envB ρ l rp vs (bAt bs k)) w (rsAt rs k) (rsAt rp k)) : OblS T k0 P l rs rp bs ρ w0 k := by
  refine ⟨fun _ w vs hE hk => ?_, fun hn => by rw [hp] at hn; cases hn⟩
  rw [ho, hp]; exact h w vs hE hk
theorem oblS_post {o : Oper} (ho : l[k]? = some o) (hp : preS k0 bs k = false) (h : ∀ w vs, Kp T w0 w → knownB rs vs w (bAt bs k) → OblOpS T k0 k false P l.toArray o (envB ρ l rs vs (bAt bs k)) w (rsAt rs k) (rsAt rp k)) : OblS T k0 P l rs rp bs ρ w0 k := by
  refine ⟨fun hn => (by rw [hp] at hn; cases hn), fun _ w vs hE hk => ?_⟩
  rw [ho, hp]; exact h w vs hE hk
/-- ahead: it writes nothing -/
theorem oblS_p {ops : Array Oper} {o : Oper} {w : World} {s s' : RS} (hk : Nat.beq k k0 = false) (hw : Region.wanted o (yieldE ops ρ) = true) (h : OpK P o ρ w (fun v w' => Ext w w' ∧ s'.sat v w')) : OblOpS T k0 k true P ops o ρ w s s' := by
  have hne : k ≠ k0 := fun e => by subst e; simp at hk
  unfold OblOpS rsIf; rw [if_pos hw, if_pos ⟨rfl, hne⟩]; exact OpK.mono (fun v w' hk => ⟨Kp.ext hk.1, hk.2⟩) h
theorem oblS_pf {ops : Array Oper} {o : Oper} {w : World} {s s' : RS} (hk : Nat.beq k k0 = false) (h : s'.sat undef w) (hw : Region.wanted o (yieldE ops ρ) = false) : OblOpS T k0 k true P ops o ρ w s s' := by
  have hne : k ≠ k0 := fun e => by subst e; simp at hk
  unfold OblOpS rsIf; rw [if_neg (by rw [hw]; decide), if_pos ⟨rfl, hne⟩]; exact h
/-- the one that writes -/
theorem oblS_s {ops : Array Oper} {o : Oper} {w : World} {s s' : RS} (hw : Region.wanted o (yieldE ops ρ) = true) (h : OpK P o ρ w (fun v w' => Kp T w w' ∧ s.sat v w')) : OblOpS T k k true P ops o ρ w s s' := by
  unfold OblOpS rsIf; rw [if_pos hw, if_neg (by simp)]; exact OpK.mono (fun v w' hk => ⟨hk.1.mono (fun b _ hb => ⟨rfl, hb⟩), hk.2⟩) h
/-- not ahead: it writes nothing -/
theorem oblS_n {ops : Array Oper} {o : Oper} {w : World} {s s' : RS} (hw : Region.wanted o (yieldE ops ρ) = true) (h : OpK P o ρ w (fun v w' => Ext w w' ∧ s.sat v w')) : OblOpS T k0 k false P ops o ρ w s s' := by
  unfold OblOpS rsIf; rw [if_pos hw, if_neg (by simp)]; exact OpK.mono (fun v w' hk => ⟨Kp.ext hk.1, hk.2⟩) h
theorem oblS_nf {ops : Array Oper} {o : Oper} {w : World} {s s' : RS} (h : s.sat undef w) (hw : Region.wanted o (yieldE ops ρ) = false) : OblOpS T k0 k false P ops o ρ w s s' := by
  unfold OblOpS rsIf; rw [if_neg (by rw [hw]; decide), if_neg (by simp)]; exact h
end
theorem cw_drawnS {P : Program} {n : Cx} {l : List Oper} {ρ : Env} {Q : Exit → Env → World → Prop} {id : Nat} {w : World} {y : Code} (T : Nat → Prop) (k0 : Nat) (rs rp : List RS) (bs : List (List Nat)) (p : Nat) (hm : P.follows .mixedOrders = true) (hok : okDraw n.size l bs p = true) (hup : UpAllS T k0 bs 0 rs rp)
    (hobl : OblAllS T k0 P l rs rp bs ρ w p)
    (hfin : ∀ w1 vs, Kp T w w1 → knownB rs vs w1 (List.range p).reverse → RL P l.toArray (fun ρ w => CW P n y Q ρ w) (l.drop p) (envB ρ l rs vs (List.range p).reverse) w1) :
    CW P n (.seq (.region id l.toArray true) y) Q ρ w := cw_seq (cw_drawS (T := T) (k0 := k0) rs rp bs p hm hok (fun j _ => by have := hup.at j; rw [Nat.zero_add] at this; exact this) (fun k hk => hobl.at k hk) hfin)
theorem cw_drawnS1 {P : Program} {n : Cx} {l : List Oper} {ρ : Env} {Q : Exit → Env → World → Prop} {id : Nat} {w : World} (T : Nat → Prop) (k0 : Nat) (rs rp : List RS) (bs : List (List Nat)) (p : Nat) (hm : P.follows .mixedOrders = true) (hok : okDraw n.size l bs p = true) (hup : UpAllS T k0 bs 0 rs rp)
    (hobl : OblAllS T k0 P l rs rp bs ρ w p)
    (hfin : ∀ w1 vs, Kp T w w1 → knownB rs vs w1 (List.range p).reverse → RL P l.toArray (Q .normal) (l.drop p) (envB ρ l rs vs (List.range p).reverse) w1) :
    CW P n (.region id l.toArray true) Q ρ w := cw_drawS (T := T) (k0 := k0) rs rp bs p hm hok (fun j _ => by have := hup.at j; rw [Nat.zero_add] at this; exact this) (fun k hk => hobl.at k hk) hfin

/-! ### strings -/
def strOf (xs : List Int) : ByteArray := xs.foldl (fun r n => r.push (UInt8.ofNat n.toNat)) ByteArray.empty
theorem strOf_data (xs : List Int) : ∀ b : ByteArray, (xs.foldl (fun r n => r.push (UInt8.ofNat n.toNat)) b).data.toList = b.data.toList ++ xs.map (fun n => UInt8.ofNat n.toNat) := by
  induction xs with
  | nil => intro b; simp
  | cons x xs ih => intro b; rw [List.foldl_cons, ih]; simp [ByteArray.push]
theorem u8_inj {x y : Int} (hx : 0 ≤ x ∧ x < 256) (hy : 0 ≤ y ∧ y < 256) (h : UInt8.ofNat x.toNat = UInt8.ofNat y.toNat) : x = y := by
  have := congrArg UInt8.toNat h
  simp only [UInt8.toNat_ofNat'] at this
  omega
theorem strOf_inj : ∀ {xs ys : List Int}, (∀ x ∈ xs, 0 ≤ x ∧ x < 256) → (∀ y ∈ ys, 0 ≤ y ∧ y < 256) → xs.map (fun n => UInt8.ofNat n.toNat) = ys.map (fun n => UInt8.ofNat n.toNat) → xs = ys
  | [], [], _, _, _ => rfl
  | [], _ :: _, _, _, h => by simp at h
  | _ :: _, [], _, _, h => by simp at h
  | x :: xs, y :: ys, hx, hy, h => by
    simp only [List.map_cons, List.cons.injEq] at h
    rw [u8_inj (hx x (by simp)) (hy y (by simp)) h.1, strOf_inj (fun z hz => hx z (by simp [hz])) (fun z hz => hy z (by simp [hz])) h.2]
theorem strOf_eq {xs ys : List Int} (hx : ∀ x ∈ xs, 0 ≤ x ∧ x < 256) (hy : ∀ y ∈ ys, 0 ≤ y ∧ y < 256) : strOf xs = strOf ys ↔ xs = ys := by
  constructor
  · intro h
    refine strOf_inj hx hy ?_
    have h1 := strOf_data xs ByteArray.empty
    have h2 := strOf_data ys ByteArray.empty
    have h3 : (strOf xs).data.toList = (strOf ys).data.toList := by rw [h]
    unfold strOf at h3
    rw [h1, h2] at h3
    simpa using h3
  · intro h; rw [h]
section ops
variable {P : Program} {ρ : Env} {w : World} {K : Value → World → Prop} {dst : Option Tmp} {ty : TypeId} {pos : String} {aft : Array Edge} {gd : Option (Nat × Bool)}
/-- string(b) -/
theorem o_strOf {F : Nat → Prop} {s t e : TypeId} {x : Operand} {n c : Nat} {ao : Option Addr} {xs : List Int} (hx : ev ρ x = .slice ao n c) (hs : P.underlying s = some (.slice e)) (he : P.underlying e = some (.int .u8)) (ht : P.underlying t = some .string)
    (hR : Rd F w 1 (.slice ao n c) (xs.map fun x => [Value.int .u8 x])) (hk : K (.string (strOf xs)) w) : OpK P ⟨dst, .convert s t x, ty, pos, aft, gd⟩ ρ w K := by
  obtain ⟨ao', c', hv, hc, hl, hcs⟩ := hR
  simp only [Value.slice.injEq] at hv
  obtain ⟨rfl, rfl, rfl⟩ := hv
  have h1 := run_convert_bytes_string (P := P) w s t e ao (xs.map fun x => [Value.int .u8 x]).length c hs he ht
  have h2 : (Conv.bytesToString (.slice ao (xs.map fun x => [Value.int .u8 x]).length c)).run P w = .ok (.string (strOf xs)) w := by
    by_cases hne : xs = []
    · subst hne
      cases ao with
      | none => simp [Conv.bytesToString, strOf]
      | some a => exact run_bytesToString w a 0 c [] (by simp [loadCells, loadCellsFrom])
    · obtain ⟨b, o, rfl, hb, hF, hat⟩ := hcs (by simpa using hne)
      have hflat := at_of_rows (o := o) hl hat
      have hfl : (xs.map fun x => [Value.int .u8 x]).flatten = xs.map (Value.int .u8) := by
        clear hl hc hcs hat hflat h1 hx hne hk
        induction xs with
        | nil => rfl
        | cons x xs ih => simp [ih]
      rw [hfl] at hflat
      have h3 := run_loadCellsFrom P (w := w) (a := ⟨b, o, none⟩) (xs.map (Value.int .u8)) 0 #[] (fun j v hj => by rw [Nat.zero_add]; exact hflat j v hj)
      refine run_bytesToString w _ _ c xs ?_
      simp only [List.length_map] at h3 ⊢
      simpa [loadCells] using h3
  simp only [OpK, execOp, hx]
  simp only [Sem.run_bind, h1, h2, Result.andThen, Sem.run_pure, OpU]
  exact hk
theorem eq_toList (a b : ByteArray) : (a.toList == b.toList) = decide (a = b) := by
  by_cases h : a = b
  · subst h; simp
  · have : a.toList ≠ b.toList := fun e => h (by
      rw [ByteArray.toList_eq, ByteArray.toList_eq] at e
      cases a; cases b; simpa using Array.toList_inj.1 e)
    simp [h, this]
theorem o_eqS {t t' : TypeId} {x y : Operand} {a b : ByteArray} (hx : ev ρ x = .string a) (hy : ev ρ y = .string b) (hk : K (.bool (decide (a = b))) w) : OpK P ⟨dst, .binOp .eql t x y t', ty, pos, aft, gd⟩ ρ w K := by
  have hg : (eqGuard .eql t x y (.string a) (.string b)).run P w = .ok () w := by unfold eqGuard; rfl
  have e1 : (binOp .eql t (.string a) (.string b)).run P w = .ok (.bool (a.toList == b.toList)) w := rfl
  have e2 : (a.toList == b.toList) = decide (a = b) := eq_toList a b
  simp only [OpK, execOp, hx, hy]
  simp only [Sem.run_bind, hg, e1, OpU, Result.andThen, Sem.run_pure]
  rw [e2]; exact hk
theorem o_neqS {t t' : TypeId} {x y : Operand} {a b : ByteArray} (hx : ev ρ x = .string a) (hy : ev ρ y = .string b) (hk : K (.bool (decide (a ≠ b))) w) : OpK P ⟨dst, .binOp .neq t x y t', ty, pos, aft, gd⟩ ρ w K := by
  have hg : (eqGuard .neq t x y (.string a) (.string b)).run P w = .ok () w := by unfold eqGuard; rfl
  have e1 : (binOp .neq t (.string a) (.string b)).run P w = .ok (.bool (!(a.toList == b.toList))) w := rfl
  have e2 : (!(a.toList == b.toList)) = decide (a ≠ b) := by rw [eq_toList]; by_cases h : a = b <;> simp [h]
  simp only [OpK, execOp, hx, hy]
  simp only [Sem.run_bind, hg, e1, OpU, Result.andThen, Sem.run_pure]
  rw [e2]; exact hk
theorem o_eqSt {t t' : TypeId} {x y : Operand} {a b : ByteArray} (hx : ev ρ x = .string a) (hy : ev ρ y = .string b) (h : a = b) (hk : K (.bool true) w) : OpK P ⟨dst, .binOp .eql t x y t', ty, pos, aft, gd⟩ ρ w K :=
  o_eqS hx hy (by rw [decide_eq_true h]; exact hk)
theorem o_neqSt {t t' : TypeId} {x y : Operand} {a b : ByteArray} (hx : ev ρ x = .string a) (hy : ev ρ y = .string b) (h : a = b) (hk : K (.bool false) w) : OpK P ⟨dst, .binOp .neq t x y t', ty, pos, aft, gd⟩ ρ w K :=
  o_neqS hx hy (by rw [decide_eq_false (by simpa using h)]; exact hk)
end ops
end Go.Proofs.YtcmlklnelipacaaDoor

import Derived.Test.YtcmlklnelipacaaDoorLogG
/- Regions that draw their order, one of whose operations stores. -/
set_option linter.unusedVariables false
set_option linter.unusedSimpArgs false
namespace Go.Proofs.YtcmlklnelipacaaDoor
open Go.RowKit
def RS.upW (W : World → World → Prop) : RS → Prop
  | .val _ => True
  | .fact R => ∀ v w w', R v w → W w w' → R v w'
theorem RS.sat_upW {W : World → World → Prop} {s : RS} (hu : s.upW W) {v : Value} {w w' : World} (h : s.sat v w) (k : W w w') : s.sat v w' := by
  cases s with
  | val c => exact h
  | fact R => exact hu v w w' h k
def OblOpT (T : Nat → Prop) (k0 k : Nat) (P : Program) (ops : Array Oper) (o : Oper) (ρ : Env) (w : World) (s : RS) : Prop :=
  if Region.wanted o (yieldE ops ρ) then OpK P o ρ w (fun v w' => Kp (fun b => k = k0 ∧ T b) w w' ∧ s.sat v w') else s.sat undef w
def OblT (T : Nat → Prop) (k0 : Nat) (P : Program) (l : List Oper) (rs : List RS) (bs : List (List Nat)) (ρ : Env) (w0 : World) (k : Nat) : Prop :=
  ∀ w vs, Kp T w0 w → (k = k0 → Ext w0 w) → knownB rs vs w (bAt bs k) → match l[k]? with
    | some o => OblOpT T k0 k P l.toArray o (envB ρ l rs vs (bAt bs k)) w (rsAt rs k)
    | none => True
section
variable {P : Program} {n : Cx} {l : List Oper} {rs : List RS} {bs : List (List Nat)} {p : Nat} {ρ : Env} {w0 : World} {K : Env → World → Prop} {Q : Exit → Env → World → Prop}
/-- A loop whose round is over. -/
def CWL (P : Program) (n : Cx) (c : Code) (Q : Exit → Env → World → Prop) (ρ : Env) (w : World) : Prop :=
  ∀ a : Act, a.tmps.size = n.size → a.defers = n.ds → envOf a = ρ → ∀ (b : Frame) (k : List Item) (cs : List Frame), b.roundOf = (fence n.ro).round → (fence n.ro).fn b.fn → (fence n.ro).room (cs.length + 1 + 1) →
    ∃ e a' w', QA n Q e a' w' ∧ ArrivesIn (Machine.fenced P (fence n.ro)) P (lone (b.atR a (.inLoop c :: k)) cs w) b k cs e a' w'
theorem round_once {c : Code} {w : World} (h : CW P n c (thenE (CWL P n c Q) Q) ρ w) : ∀ a : Act, a.tmps.size = n.size → a.defers = n.ds → envOf a = ρ → ∀ (b : Frame) (k : List Item) (cs : List Frame), b.roundOf = (fence n.ro).round → (fence n.ro).fn b.fn → (fence n.ro).room (cs.length + 1 + 1) →
    ∃ e a' w', QA n Q e a' w' ∧ ArrivesIn (Machine.fenced P (fence n.ro)) P (lone (b.atR a (.code c :: .inLoop c :: k)) cs w) b k cs e a' w' := by
  intro a hs hd he b k cs hro hb hr
  obtain ⟨e, a₁, w₁, hq, harr⟩ := h a hs hd he b (.inLoop c :: k) cs hro hb hr
  rcases hq with ⟨g1, g2, g3⟩ | ⟨rfl, g3⟩
  · cases e with
    | normal =>
      obtain ⟨e₂, a₂, w₂, hq₂, harr₂⟩ := g3 a₁ g1 g2 rfl b k cs hro hb hr
      exact ⟨e₂, a₂, w₂, hq₂, .of_steps harr harr₂⟩
    | exit id => exact ⟨_, a₁, w₁, .inl ⟨g1, g2, g3⟩, .pass (x := .inLoop c) rfl (fun _ _ => .inl (by simp)) harr⟩
    | goto l => exact ⟨_, a₁, w₁, .inl ⟨g1, g2, g3⟩, .pass (x := .inLoop c) rfl (fun _ _ => .inl (by simp)) harr⟩
    | ret => exact ⟨_, a₁, w₁, .inl ⟨g1, g2, g3⟩, .pass (x := .inLoop c) rfl (fun _ _ => .inl (by simp)) harr⟩
    | panic ch => exact ⟨_, a₁, w₁, .inl ⟨g1, g2, g3⟩, .pass (x := .inLoop c) rfl (fun _ _ => .inl (by simp)) harr⟩
    | outgrown => exact ⟨_, a₁, w₁, .inl ⟨g1, g2, g3⟩, .pass (x := .inLoop c) rfl (fun _ _ => .inl (by simp)) harr⟩
  · exact ⟨_, a₁, w₁, .inr ⟨rfl, g3⟩, .pass (x := .inLoop c) rfl (fun _ _ => .inl (by simp)) harr⟩
theorem cw_unroll {c : Code} {w : World} (h : CW P n c (thenE (CWL P n c Q) Q) ρ w) : CW P n (.loop c) Q ρ w := fun a hs hd he => by
  intro b k cs hro hb hr
  obtain ⟨e, a', w', hq, harr⟩ := round_once h a hs hd he b k cs hro hb hr
  exact ⟨e, a', w', hq, .of_steps (.one (fenced_calm hb hr rfl) stepR_loop) harr⟩
theorem cwl_unroll {c : Code} {w : World} (h : CW P n c (thenE (CWL P n c Q) Q) ρ w) : CWL P n c Q ρ w := fun a hs hd he => by
  intro b k cs hro hb hr
  obtain ⟨e, a', w', hq, harr⟩ := round_once h a hs hd he b k cs hro hb hr
  exact ⟨e, a', w', hq, .of_steps (.one (fenced_calm hb hr rfl) stepR_inLoop) harr⟩
/-- The state while the first p operations are being carried out. -/
structure Inv1T (T : Nat → Prop) (k0 : Nat) (l : List Oper) (rs : List RS) (bs : List (List Nat)) (p : Nat) (n : Cx) (ρ : Env) (w0 : World) (L : Array Bool) (a : Act) (w : World) : Prop where
  sz : L.size = l.length
  ts : a.tmps.size = n.size
  ds : a.defers = n.ds
  cl : ∀ m, m < l.length → L.getD m false = true → ∀ j ∈ bAt bs m, L.getD j false = true
  un : ∀ k, k < l.length → p ≤ k → L.getD k false = false
  kp : Kp T w0 w
  kx : L.getD k0 false = false → Ext w0 w
  ex : ∃ vs : Nat → Value, (∀ j, j < p → L.getD j false = true → (rsAt rs j).sat (vs j) w) ∧ (∀ j, j < p → L.getD j false = true → ∀ d, dstAt l j = some d → envOf a d = vs j) ∧
    (∀ t, (∀ j, j < p → L.getD j false = true → dstAt l j ≠ some t) → envOf a t = ρ t)
theorem inv1_soundT {T : Nat → Prop} {k0 : Nat} (hok : OkDraw n.size l bs p) (hK : ∀ ρ w, K ρ w → Q .normal ρ w) (hup : ∀ j, j < p → ∀ k, k ≠ j → (rsAt rs j).upW (Kp (fun b => k = k0 ∧ T b))) (hobl : ∀ k, k < p → OblT T k0 P l rs bs ρ w0 k)
    (hfin : ∀ w vs, Kp T w0 w → knownB rs vs w (List.range p).reverse → RL P l.toArray K (l.drop p) (envB ρ l rs vs (List.range p).reverse) w) :
    ∀ (fuel : Nat) (L : Array Bool) (a : Act) (w : World), unl L l.length ≤ fuel → Inv1T T k0 l rs bs p n ρ w0 L a w → wpAnyIn (fence n.ro) 1 P .any l.toArray (QA n Q) fuel L a w := by
  -- all p are through
  have turn : ∀ (L : Array Bool) (a : Act) (w : World), Inv1T T k0 l rs bs p n ρ w0 L a w → (∀ j, j < p → L.getD j false = true) → Inv2 P l n K p L a w := by
    intro L a w h hall
    obtain ⟨vs, h1, h2, h3⟩ := h.ex
    have he : envOf a = envB ρ l rs vs (List.range p).reverse := by
      funext t
      by_cases hc : ∃ j, j < p ∧ dstAt l j = some t
      · obtain ⟨j, hj, hd⟩ := hc
        rw [envB_hit (j := j) _ (by simpa using hj) hd (fun i hi hdi => hok.uniq j hj i (by simpa using hi) t hdi hd), h2 j hj (hall j hj) t hd, RS.sat_of (h1 j hj (hall j hj))]
      · rw [envB_miss _ (fun j hj hd => hc ⟨j, by simpa using hj, hd⟩)]
        exact h3 t (fun j hj _ hd => hc ⟨j, hj, hd⟩)
    refine ⟨h.sz, h.ts, h.ds, fun j hj => ⟨fun hl => ?_, fun hlt => hall j hlt⟩, ?_⟩
    · by_cases hc : j < p
      · exact hc
      · have := h.un j hj (by omega); rw [this] at hl; cases hl
    · rw [he]; exact hfin w vs h.kp (knownB_of _ (fun j hj => h1 j (by simpa using hj) (hall j (by simpa using hj))))
  intro fuel
  have fin : ∀ (L : Array Bool) (a : Act) (w : World), Inv1T T k0 l rs bs p n ρ w0 L a w → Region.ready .any l.toArray L = [] → QA n Q .normal a w := by
    intro L a w h hr
    have hall := ready_all hok h.sz hr
    have hI := turn L a w h (fun j hj => hall j (Nat.lt_of_lt_of_le hj hok.le))
    have hp : l.length ≤ p := by
      by_cases hlt : p < l.length
      · have := (hI.up p hlt).1 (hall p hlt); omega
      · omega
    have h2 := hI.rl
    rw [List.drop_eq_nil_of_le hp] at h2
    exact .inl ⟨h.ts, h.ds, hK _ _ h2⟩
  induction fuel with
  | zero =>
    intro L a w hf h
    have hz := unl_zero (L := L) l.length (by omega)
    have hr : Region.ready .any l.toArray L = [] := by
      rw [List.eq_nil_iff_forall_not_mem]
      intro i hi
      obtain ⟨h0, o, ho, _⟩ := mem_ready.1 hi
      have hlt : i < l.length := by simpa using (Array.getElem?_eq_some_iff.1 ho).1
      rw [hz i hlt] at h0
      cases h0
    exact ⟨hr, fin L a w h hr⟩
  | succ fuel ih =>
    intro L a w hf h
    by_cases hcase : ∀ j, j < p → L.getD j false = true
    · exact inv2_sound hok hK (fuel + 1) p L a w (Nat.le_refl _) hf (turn L a w h hcase)
    refine ⟨fin L a w h, fun k hk => ?_⟩
    obtain ⟨o, ho, hlt, h0, h0', hb⟩ := ready_b hok h.cl hk
    have hkp : k < p := by
      by_cases hc : k < p
      · exact hc
      · exact absurd (fun j hj => hb j (hok.tail k hlt (by omega) j (by omega))) hcase
    obtain ⟨vs, h1, h2, h3⟩ := h.ex
    have hbp : ∀ j ∈ bAt bs k, j < p := fun j hj => by have := hok.blt k hlt j hj; omega
    have hob := hobl k hkp w vs h.kp (fun e => h.kx (e ▸ h0)) (knownB_of _ (fun j hj => h1 j (hbp j hj) (hb j hj)))
    simp only [ho] at hob
    -- the two environments agree where the operation looks
    have agree : ∀ t ∈ o.looksAt l.toArray, envOf a t = envB ρ l rs vs (bAt bs k) t := by
      intro t ht
      by_cases hc : ∃ j, j < p ∧ dstAt l j = some t
      · obtain ⟨j, hj, hd⟩ := hc
        by_cases hl : L.getD j false = true
        · have hjb : j ∈ bAt bs k := by
            rcases hok.look k o ho hkp j hj t hd ht with h5 | h5 | h5
            · exact h5
            · have := h.cl j (Nat.lt_of_lt_of_le hj hok.le) hl k h5
              rw [h0] at this; cases this
            · subst h5; rw [h0] at hl; cases hl
          rw [h2 j hj hl t hd, envB_hit (j := j) _ hjb hd (fun i hi hdi => hok.uniq j hj i (hbp i hi) t hdi hd), RS.sat_of (h1 j hj hl)]
        · rw [h3 t (fun i hi hli hdi => by
            have := hok.uniq j hj i hi t hdi hd
            subst this; exact hl hli), envB_miss _ (fun i hi hdi => by
            have := hok.uniq j hj i (hbp i hi) t hdi hd
            subst this; exact hl (hb _ hi))]
      · rw [h3 t (fun j hj _ hd => hc ⟨j, hj, hd⟩), envB_miss _ (fun j hj hd => hc ⟨j, hbp j hj, hd⟩)]
    have hsel : ∀ cs b, o.op ≠ .select cs b := fun cs b => Region.noSelect_spec hok.sel k o cs b (by simpa using ho)
    unfold OblOpT at hob
    rw [← wanted_congrE agree] at hob
    have hdst := List.all_eq_true.1 hok.dst o (List.mem_of_getElem? ho)
    have hunl : unl (L.setIfInBounds k true) l.length ≤ fuel := by
      have := unl_set (L := L) (i := k) l.length
      rw [if_pos ⟨hlt, h0'⟩] at this
      omega
    have hdk : dstAt l k = o.dst := by simp [dstAt, ho]
    have hksz : k < L.size := by rw [h.sz]; exact hlt
    have next : ∀ v w', Kp (fun b => k = k0 ∧ T b) w w' → (rsAt rs k).sat v w' → wpAnyIn (fence n.ro) 1 P .any l.toArray (QA n Q) fuel (L.setIfInBounds k true) (a.put o.dst v) w' := by
      intro v w' hext hsat
      have henv : envOf (a.put o.dst v) = updO (envOf a) o.dst v := envOf_put _ _ _ (fun d e => by rw [h.ts]; exact dstOk_spec hdst d e)
      refine ih _ _ _ hunl ⟨by simpa using h.sz, (put_size _ _ _).trans h.ts, (put_defs _ _ _).trans h.ds, ?_, ?_, h.kp.trans (hext.mono (fun _ _ h => h.2)), ?_, fun j => if j = k then v else vs j, ?_, ?_, ?_⟩
      · intro m hm hl j hj
        rcases getD_set_cases hl with rfl | hl
        · exact getD_set_true (hb j hj)
        · exact getD_set_true (h.cl m hm hl j hj)
      · intro j hj hpj
        rw [getD_set_ne false (by omega)]; exact h.un j hj hpj
      · intro hl
        by_cases e : k = k0
        · subst e; rw [getD_set_same hksz] at hl; cases hl
        · rw [getD_set_ne false e] at hl
          exact (h.kx hl).trans (hext.mono (fun _ _ hb => absurd hb.1 e))
      · intro j hj hl
        rcases getD_set_cases hl with rfl | hl
        · simp only [if_true]; exact hsat
        · by_cases e : j = k
          · subst e; simp only [if_true]; exact hsat
          · simp only [e, if_false]; exact RS.sat_upW (hup j hj k (fun h' => e h'.symm)) (h1 j hj hl) hext
      · intro j hj hl d hd
        rw [henv]
        by_cases e : j = k
        · subst e
          rw [← hdk, hd]
          simp only [if_true]
          exact upd_at _ _ _
        · simp only [e, if_false]
          have hl' := (getD_set_cases hl).resolve_left e
          cases hok' : o.dst with
          | none => exact h2 j hj hl' d hd
          | some d' =>
            have hne : d ≠ d' := fun h' => e (hok.uniq k hkp j hj d hd (by rw [hdk, hok', h']))
            show upd _ d' _ d = _
            rw [upd_ne _ _ hne]; exact h2 j hj hl' d hd
      · intro t ht
        rw [henv]
        have hnk : dstAt l k ≠ some t := ht k hkp (getD_set_same hksz)
        have hrest := h3 t (fun j hj hl => ht j hj (getD_set_true hl))
        cases hok' : o.dst with
        | none => exact hrest
        | some d' =>
          have hne : t ≠ d' := fun h' => hnk (by rw [hdk, hok', h'])
          show upd _ d' _ t = _
          rw [upd_ne _ _ hne]; exact hrest
    unfold wpOpIn
    have hoa : l.toArray[k]? = some o := by simpa using ho
    simp only [hoa]
    rw [yielded_env]
    split
    · rename_i hw
      rw [if_pos hw] at hob
      refine OpK.upon ?_
      have hob' : OpK P o (envOf a) w (fun v w' => Kp (fun b => k = k0 ∧ T b) w w' ∧ (rsAt rs k).sat v w') := by
        unfold OpK at hob ⊢
        rw [ev_congr agree hsel]; exact hob
      exact OpK.mono (fun v w' hk => next v w' hk.1 hk.2) hob'
    · rename_i hw
      rw [if_neg hw] at hob
      exact ⟨fun _ _ => trivial, next undef w (Kp.refl _ _) hob⟩

/-- A REGION THAT DRAWS ITS ORDER: of each of its first p operations, whatever has been carried out ahead of it, what 'rs' says; behind them the rest, in its order. -/
theorem cw_drawT {T : Nat → Prop} {k0 : Nat} {id : Nat} {w : World} (rs : List RS) (bs : List (List Nat)) (p : Nat) (hm : P.follows .mixedOrders = true) (hok : okDraw n.size l bs p = true) (hup : ∀ j, j < p → ∀ k, k ≠ j → (rsAt rs j).upW (Kp (fun b => k = k0 ∧ T b)))
    (hobl : ∀ k, k < p → OblT T k0 P l rs bs ρ w k)
    (hfin : ∀ w1 vs, Kp T w w1 → knownB rs vs w1 (List.range p).reverse → RL P l.toArray (Q .normal) (l.drop p) (envB ρ l rs vs (List.range p).reverse) w1) :
    CW P n (.region id l.toArray true) Q ρ w := fun a hs hd he => by
  have hok' := okDraw_spec hok
  refine wpIn_region_any hm (inv1_soundT (K := Q .normal) (ρ := ρ) (w0 := w) hok' (fun _ _ h => h) hup hobl hfin _ _ a _ ?_ ?_)
  · have : ∀ m, unl (Array.replicate l.toArray.size false) m ≤ m := by
      intro m
      induction m with
      | zero => exact Nat.le_refl _
      | succ m ih => simp only [unl]; split <;> omega
    simpa using this l.length
  · have hno : ∀ j, (Array.replicate l.toArray.size false).getD j false = false := by
      intro j
      simp only [Array.getD_eq_getD_getElem?, Array.getElem?_replicate]
      split <;> rfl
    refine ⟨by simp, hs, hd, fun m _ hl => ?_, fun k _ _ => hno k, (Kp.refl T w).drew, fun _ => (Kp.refl Non w).drew, fun _ => undef, fun j _ hl => ?_, fun j _ hl => ?_, fun t _ => by rw [he]⟩
    · rw [hno m] at hl; cases hl
    · rw [hno j] at hl; cases hl
    · rw [hno j] at hl; cases hl
end
def OblAllT (T : Nat → Prop) (k0 : Nat) (P : Program) (l : List Oper) (rs : List RS) (bs : List (List Nat)) (ρ : Env) (w0 : World) : Nat → Prop
  | 0 => True
  | k + 1 => OblAllT T k0 P l rs bs ρ w0 k ∧ OblT T k0 P l rs bs ρ w0 k
theorem OblAllT.at {T : Nat → Prop} {k0 : Nat} {P : Program} {l : List Oper} {rs : List RS} {bs : List (List Nat)} {ρ : Env} {w0 : World} : ∀ {p : Nat}, OblAllT T k0 P l rs bs ρ w0 p → ∀ k, k < p → OblT T k0 P l rs bs ρ w0 k
  | 0, _, k, hk => by omega
  | p + 1, h, k, hk => by
    by_cases e : k = p
    · subst e; exact h.2
    · exact OblAllT.at h.1 k (by omega)
/-- What each leaves stands: what the storing one leaves, through all others; what the others leave, through it too. -/
def upAllT (T : Nat → Prop) (k0 : Nat) : Nat → List RS → Prop
  | _, [] => True
  | j, s :: rs => (if Nat.beq j k0 then s.upW Ext else s.upW (Kp T)) ∧ upAllT T k0 (j + 1) rs
theorem upT_one {T : Nat → Prop} {j k0 : Nat} {s : RS} (h : s.upW Ext) (e : Nat.beq j k0 = true) : (if Nat.beq j k0 then s.upW Ext else s.upW (Kp T)) := by rw [if_pos e]; exact h
theorem upT_no {T : Nat → Prop} {j k0 : Nat} {s : RS} (h : s.upW (Kp T)) (e : Nat.beq j k0 = false) : (if Nat.beq j k0 then s.upW Ext else s.upW (Kp T)) := by rw [if_neg (by rw [e]; decide)]; exact h
theorem upAllT.at {T : Nat → Prop} {k0 : Nat} : ∀ {rs : List RS} {i : Nat}, upAllT T k0 i rs → ∀ j k, k ≠ i + j → (rsAt rs j).upW (Kp (fun b => k = k0 ∧ T b))
  | [], _, _, j, k, _ => by simp [rsAt, RS.upW]
  | s :: rs, i, h, 0, k, hne => by
    have h1 := h.1
    show s.upW _
    cases s with
    | val c => trivial
    | fact R =>
      intro v w w' hR hk
      by_cases e : i = k0
      · subst e
        rw [if_pos (by simp)] at h1
        exact h1 v w w' hR (hk.mono (fun b _ hb => absurd hb.1 (by simpa using hne)))
      · rw [if_neg (by simpa using e)] at h1
        exact h1 v w w' hR (hk.mono (fun b _ hb => hb.2))
  | s :: rs, i, h, j + 1, k, hne => by
    have := upAllT.at h.2 j k (by omega)
    simpa [rsAt] using this
section
variable {T : Nat → Prop} {k0 : Nat} {P : Program} {l : List Oper} {rs : List RS} {bs : List (List Nat)} {ρ : Env} {w0 : World} {k : Nat}
theorem oblT_mk {o : Oper} (ho : l[k]? = some o) (h : ∀ w vs, Kp T w0 w → (k = k0 → Ext w0 w) → knownB rs vs w (bAt bs k) → OblOpT T k0 k P l.toArray o (envB ρ l rs vs (bAt bs k)) w (rsAt rs k)) : OblT T k0 P l rs bs ρ w0 k := by
  intro w vs hE hX hk
  rw [ho]
  exact h w vs hE hX hk
theorem oblT_t {ops : Array Oper} {o : Oper} {w : World} {s : RS} (hw : Region.wanted o (yieldE ops ρ) = true) (h : OpK P o ρ w (fun v w' => Ext w w' ∧ s.sat v w')) : OblOpT T k0 k P ops o ρ w s := by
  unfold OblOpT; rw [if_pos hw]; exact OpK.mono (fun v w' hk => ⟨Kp.ext hk.1, hk.2⟩) h
theorem oblT_s {ops : Array Oper} {o : Oper} {w : World} {s : RS} (hw : Region.wanted o (yieldE ops ρ) = true) (h : OpK P o ρ w (fun v w' => Kp T w w' ∧ s.sat v w')) : OblOpT T k k P ops o ρ w s := by
  unfold OblOpT; rw [if_pos hw]; exact OpK.mono (fun v w' hk => ⟨hk.1.mono (fun b _ hb => ⟨rfl, hb⟩), hk.2⟩) h
theorem oblT_f {ops : Array Oper} {o : Oper} {w : World} {s : RS} (h : s.sat undef w) (hw : Region.wanted o (yieldE ops ρ) = false) : OblOpT T k0 k P ops o ρ w s := by
  unfold OblOpT; rw [if_neg (by rw [hw]; decide)]; exact h
end
theorem cw_drawnT {P : Program} {n : Cx} {l : List Oper} {ρ : Env} {Q : Exit → Env → World → Prop} {id : Nat} {w : World} {y : Code} (T : Nat → Prop) (k0 : Nat) (rs : List RS) (bs : List (List Nat)) (p : Nat) (hm : P.follows .mixedOrders = true) (hok : okDraw n.size l bs p = true) (hup : upAllT T k0 0 rs)
    (hobl : OblAllT T k0 P l rs bs ρ w p)
    (hfin : ∀ w1 vs, Kp T w w1 → knownB rs vs w1 (List.range p).reverse → RL P l.toArray (fun ρ w => CW P n y Q ρ w) (l.drop p) (envB ρ l rs vs (List.range p).reverse) w1) :
    CW P n (.seq (.region id l.toArray true) y) Q ρ w := cw_seq (cw_drawT rs bs p hm hok (fun j _ k hk => hup.at j k (by omega)) (fun k hk => hobl.at k hk) hfin)
end Go.Proofs.YtcmlklnelipacaaDoor

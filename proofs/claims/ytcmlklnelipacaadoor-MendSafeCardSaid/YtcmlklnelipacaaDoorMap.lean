import Derived.Test.YtcmlklnelipacaaDoorLogK
import Derived.Maps.Own
import Derived.Maps.Views
/- Maps of the call's own from int to int. Over whatever program. -/
set_option linter.unusedVariables false
set_option linter.unusedSimpArgs false
namespace Go.Proofs.YtcmlklnelipacaaDoor
open Go.RowKit Go.Maps
structure MapTy (P : Program) (t k e : TypeId) : Prop where
  u : P.underlying t = some (.map k e)
  uk : P.underlying k = some (.int .i64)
  ue : P.underlying e = some (.int .i64)
  z : ∀ w, (zeroValue e).run P w = .ok (.int .i64 0) w
/-- Block b is a map of at most n entries; at q it holds f q. -/
def OwnM (P : Program) (k e : TypeId) (w : World) (b n : Nat) (f : Int → Int) : Prop :=
  ∃ D : DataW Unit, IsMap D ∧ w.ownsMap P k (plainElem P e) b n D ∧ ∀ q : Int, (Lit.int .i64 q).wf = true → D.atKey (.int .i64 q) (.lit (.int .i64 0)) = .lit (.int .i64 (f q))
theorem OwnM.lt {P : Program} {k e : TypeId} {w : World} {b n : Nat} {f : Int → Int} (h : OwnM P k e w b n f) : b < w.heap.size := by
  obtain ⟨D, _, h, _⟩ := h; exact h.lt
theorem OwnM.kp {P : Program} {k e : TypeId} {w w' : World} {b n : Nat} {f : Int → Int} {S : Nat → Prop} (h : OwnM P k e w b n f) (hk : Kp S w w') (hb : ¬ S b) : OwnM P k e w' b n f := by
  have hlt := h.lt
  obtain ⟨D, hm, ⟨es, clock, h1, h2⟩, hat⟩ := h
  exact ⟨D, hm, ⟨es, clock, (hk.block b hlt hb).trans h1, h2⟩, hat⟩
theorem OwnM.ext {P : Program} {k e : TypeId} {w w' : World} {b n : Nat} {f : Int → Int} (h : OwnM P k e w b n f) (hk : Ext w w') : OwnM P k e w' b n f := h.kp hk (fun x => x)
theorem OwnM.no_cells {P : Program} {k e : TypeId} {w : World} {b n : Nat} {f : Int → Int} (h : OwnM P k e w b n f) {cs : Array Value} {T : TypeId} {fz : Nat × Nat} : w.heap[b]? ≠ some (.cells cs T fz) := by
  obtain ⟨D, hm, ⟨es, clock, h1, h2⟩, hat⟩ := h
  rw [h1]; intro e; cases e
theorem OwnM.set {P : Program} {k e : TypeId} {w w' : World} {b n b' : Nat} {f : Int → Int} {cs : List Value} {T : TypeId} (h : OwnM P k e w b n f) (hk : Kp (fun j => j = b') w w') (hB : Box w b' cs T) : OwnM P k e w' b n f :=
  h.kp hk (fun e => h.no_cells (e ▸ hB))
theorem OwnM.grown {P : Program} {k e : TypeId} {w w' : World} {b n : Nat} {f : Int → Int} {base : Nat} {e' : TypeId} {size m : Nat} {v : Value} {xs : List Value} (h : OwnM P k e w b n f) (hO : w.ownsRow base e' size v m xs) (hk : Kp (fun j => some j = v.ownBlock) w w') : OwnM P k e w' b n f :=
  h.kp hk (fun hS => by obtain ⟨_, _, cur, hc⟩ := own_lt hO b hS; exact h.no_cells hc)
theorem OwnM.congr {P : Program} {k e : TypeId} {w : World} {b n n' : Nat} {f g : Int → Int} (h : OwnM P k e w b n f) (hn : n ≤ n') (hf : ∀ q, f q = g q) : OwnM P k e w b n' g := by
  obtain ⟨D, hm, h1, hat⟩ := h
  exact ⟨D, hm, h1.mono hn, fun q hq => by rw [← hf q]; exact hat q hq⟩
theorem own_ne {w : World} {b1 b2 s1 s2 n1 n2 : Nat} {e1 e2 : TypeId} {v1 v2 : Value} {xs1 xs2 : List Value} (h1 : w.ownsRow b1 e1 s1 v1 n1 xs1) (h2 : w.ownsRow b2 e2 s2 v2 n2 xs2) (hne : e1 ≠ e2) : ∀ i, some i = v1.ownBlock → ¬ some i = v2.ownBlock := by
  intro i hi hj
  obtain ⟨_, _, c1, g1⟩ := own_lt h1 i hi
  obtain ⟨_, _, c2, g2⟩ := own_lt h2 i hj
  rw [g1] at g2
  simp at g2
  exact hne g2.2
theorem wf64 {q : Int} (h0 : -9223372036854775808 ≤ q) (h1 : q ≤ 9223372036854775807) : (Lit.int .i64 q).wf = true := by
  simp [Lit.wf, IntKind.min, IntKind.max, IntKind.bits, IntKind.signed]; omega
theorem Box.upM {P : Program} {k e : TypeId} {w w' : World} {b n b' : Nat} {f : Int → Int} {cs : List Value} {T : TypeId} (hB : Box w b' cs T) (hM : OwnM P k e w b n f) (hk : Kp (fun j => j = b) w w') : Box w' b' cs T :=
  hB.kp hk (fun (e : b' = b) => hM.no_cells (e ▸ hB))
theorem own_upM {P : Program} {k e : TypeId} {w w' : World} {b n : Nat} {f : Int → Int} {base : Nat} {e' : TypeId} {size m : Nat} {v : Value} {xs : List Value} (hO : w.ownsRow base e' size v m xs) (hM : OwnM P k e w b n f) (hk : Kp (fun j => j = b) w w') : w'.ownsRow base e' size v m xs :=
  own_kpB hO hk (fun i hi (hS : i = b) => by subst hS; obtain ⟨_, _, cur, hc⟩ := own_lt hO i hi; exact hM.no_cells hc)
theorem Rd.upM {P : Program} {k e : TypeId} {w w' : World} {b n : Nat} {f : Int → Int} {F : Nat → Prop} {s : Nat} {v : Value} {css : List (List Value)} (h : Rd F w s v css) (hM : OwnM P k e w b n f) (hk : Kp (fun j => j = b) w w') (hs : 0 < s) : Rd F w' s v css := by
  obtain ⟨ao, c, hv, hc, hl, hcs⟩ := h
  refine ⟨ao, c, hv, hc, hl, fun hne => ?_⟩
  obtain ⟨b', o, ha, hb, hF, h⟩ := hcs hne
  have hne' : b' ≠ b := by
    rintro rfl
    match css, hne, hl, h with
    | c0 :: css, _, hl, h =>
      have hl0 : c0.length = s := hl c0 (by simp)
      have h0 := h 0 c0 rfl 0 c0[0] (by simp)
      obtain ⟨ob, hob, hc⟩ := cells_of_cell h0
      have hbb : ((⟨b', o + 0 * s, none⟩ : Addr).add 0).block = b' := by rw [add_lit]
      rw [hbb] at hob
      cases ob <;> first | exact hM.no_cells hob | (cases hc)
  exact ⟨b', o, ha, Nat.lt_of_lt_of_le hb hk.size, hF, fun i cs hi => (h i cs hi).of_block (hk.block b' hb hne')⟩
section ops
variable {P : Program} {ρ : Env} {w : World} {K : Value → World → Prop} {dst : Option Tmp} {ty : TypeId} {pos : String} {aft : Array Edge} {gd : Option (Nat × Bool)}
theorem o_makeMap {t k e : TypeId} (hk : ∀ b w', w.heap.size ≤ b → w'.heap.size = w.heap.size + 1 → Ext w w' → OwnM P k e w' b 0 (fun _ => 0) → K (.map (some b)) w') : OpK P ⟨dst, .makeMap t none, ty, pos, aft, gd⟩ ρ w K := by
  have hr := run_makeMap (P := P) t w
  simp only [OpK, execOp]
  simp [hr, OpU]
  refine hk w.heap.size _ (Nat.le_refl _) (by simp) (ext_alloc w _) ⟨.map [], ⟨_, rfl⟩, World.ownsMap_made w P k _, fun q _ => rfl⟩
theorem o_lookupM {t k e : TypeId} {x y : Operand} {b n : Nat} {f : Int → Int} {q : Int} (hT : MapTy P t k e) (hx : ev ρ x = .map (some b)) (hy : ev ρ y = .int .i64 q) (hq : (Lit.int .i64 q).wf = true) (h : OwnM P k e w b n f) (hk : K (.int .i64 (f q)) w) : OpK P ⟨dst, .lookup t x y false, ty, pos, aft, gd⟩ ρ w K := by
  obtain ⟨D, hm, h1, hat⟩ := h
  obtain ⟨c, hrun, hc, _⟩ := h1.lookup_int (int_keyed hT.uk) hT.u hT.ue (hT.z w) (keyOf_int_mk hT.uk hq)
  rw [hat q hq] at hc
  simp only [DataW.lit.injEq, Lit.int.injEq, true_and] at hc
  subst hc
  simp only [OpK, execOp, hx, hy]
  simp [hrun, OpU]; exact hk
theorem o_mapUpdM {t k e : TypeId} {x y z : Operand} {b n : Nat} {f : Int → Int} {q v : Int} (hT : MapTy P t k e) (hx : ev ρ x = .map (some b)) (hy : ev ρ y = .int .i64 q) (hz : ev ρ z = .int .i64 v) (hq : (Lit.int .i64 q).wf = true) (hv : (Lit.int .i64 v).wf = true) (h : OwnM P k e w b n f) (hn : n < 1000000)
    (hk : ∀ w', Kp (fun j => j = b) w w' → OwnM P k e w' b (n + 1) (fun j => if j = q then v else f j) → K undef w') : OpK P ⟨dst, .mapUpdate t x y z, ty, pos, aft, gd⟩ ρ w K := by
  obtain ⟨D, hm, h1, hat⟩ := h
  obtain ⟨w', hrun, h2, hg⟩ := h1.update (int_keyed hT.uk) hT.u (by unfold maxLen; omega) (keyOf_int_mk hT.uk hq) (plainElem_int hT.ue hv)
  simp only [OpK, execOp, hx, hy, hz]
  simp [hrun, OpU]
  refine hk w' ((Kp.of_grown hg).mono (fun j _ hj => by simpa using hj)) ⟨_, hm.put _ _, h2, fun j hj => ?_⟩
  by_cases e : j = q
  · subst e
    simp only [if_true]
    exact atKey_put_same hm (by simp [WideAt.IsKeyLit]) _ _
  · simp only [e, if_false]
    rw [atKey_put_other (by intro e2; injection e2 with e3 e4; exact e e4) _ _]
    exact hat j hj
end ops
end Go.Proofs.YtcmlklnelipacaaDoor

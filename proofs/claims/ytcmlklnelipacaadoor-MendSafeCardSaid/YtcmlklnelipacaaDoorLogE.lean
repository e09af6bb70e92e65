/- Small laws that the printed walks name. Over whatever program. -/
import Derived.Test.YtcmlklnelipacaaDoorLogD
import Derived.KernelRfl
set_option linter.unusedVariables false
set_option linter.unusedSimpArgs false
namespace Go.Proofs.YtcmlklnelipacaaDoor
open Go.RowKit

theorem want_t {d : Option Tmp} {op : Op} {ty : TypeId} {pos : String} {aft : Array Edge} {j : Nat} {want b : Bool} {f : Nat → Option Bool} (h : f j = some b) (hb : b = want) : Region.wanted ⟨d, op, ty, pos, aft, some (j, want)⟩ f = true := by
  subst hb; simp [Region.wanted, h]
theorem want_f {d : Option Tmp} {op : Op} {ty : TypeId} {pos : String} {aft : Array Edge} {j : Nat} {want b b' : Bool} {f : Nat → Option Bool} (h : f j = some b) (hb : b = b') (hn : b' ≠ want) : Region.wanted ⟨d, op, ty, pos, aft, some (j, want)⟩ f = false := by
  subst hb; simpa [Region.wanted, h] using hn
theorem At.ext {w w' : World} {b o : Nat} {cs : List Value} (h : At w ⟨b, o, none⟩ cs) (k : Ext w w') : At w' ⟨b, o, none⟩ cs := by
  intro j v hj
  have h1 := h j v hj
  rw [add_lit] at h1 ⊢
  have hlt : b < w.heap.size := by
    unfold World.cell? at h1
    cases hb : w.heap[b]? with
    | none => simp [hb] at h1
    | some o => exact (Array.getElem?_eq_some_iff.1 hb).1
  rw [World.cell?_of_block (w := w) (k.block b hlt (fun x => x))]
  exact h1
theorem own_nil (w : World) (base e size : Nat) : w.ownsRow base e size (.slice none 0 0) 0 [] := ⟨by simp, .inl ⟨rfl, rfl⟩⟩
theorem elt_mk {P : Program} {e : TypeId} {z : Value} {k bytes : Nat} (h : (P.info? e).map (fun i => (i.zero, i.size, i.bytes)) = some (some z, k, bytes)) (hz : z.cells.size = k) (hk : 0 < k) : Elt P e z k bytes := by
  obtain ⟨i, hi, hzz⟩ := Option.map_eq_some_iff.1 h
  simp only [Prod.mk.injEq] at hzz
  exact ⟨⟨i, hi, hzz.1, hzz.2.1, hzz.2.2⟩, hz, hk⟩
section rules
variable {P : Program} {n : Cx} {Q : Exit → Env → World → Prop} {ρ : Env} {w : World}
theorem cw_condKT {c : Operand} {x y : Code} {b : Bool} (hc : ev ρ c = .bool b) (hb : b = true) (h : CW P n x Q ρ w) : CW P n (.cond c x y) Q ρ w := by subst hb; exact cw_condT hc h
theorem cw_condKF {c : Operand} {x y : Code} {b : Bool} (hc : ev ρ c = .bool b) (hb : b = false) (h : CW P n y Q ρ w) : CW P n (.cond c x y) Q ρ w := by subst hb; exact cw_condF hc h
end rules
section ops
variable {P : Program} {ρ : Env} {w : World} {K : Value → World → Prop} {dst : Option Tmp} {ty : TypeId} {pos : String} {aft : Array Edge} {gd : Option (Nat × Bool)}
theorem o_notD {t : TypeId} {x : Operand} {q : Prop} [Decidable q] (hx : ev ρ x = .bool (decide q)) (hk : K (.bool (decide (¬ q))) w) : OpK P ⟨dst, .unOp .not t x, ty, pos, aft, gd⟩ ρ w K :=
  o_not hx (by rw [← decide_not]; exact hk)
theorem o_pickT {c a b : Operand} {t : Bool} {v : Value} (hc : ev ρ c = .bool t) (ht : t = true) (ha : ev ρ a = v) (k : K v w) : OpK P ⟨dst, .pick c a b, ty, pos, aft, gd⟩ ρ w K := by
  subst ht; subst ha; exact o_pick hc (by simpa using k)
theorem o_pickF {c a b : Operand} {t : Bool} {v : Value} (hc : ev ρ c = .bool t) (ht : t = false) (hb : ev ρ b = v) (k : K v w) : OpK P ⟨dst, .pick c a b, ty, pos, aft, gd⟩ ρ w K := by
  subst ht; subst hb; exact o_pick hc (by simpa using k)
/-- An element of a slice whose rows are told by a list. -/
theorem o_idxM {α : Type} {F : Nat → Prop} {t e : TypeId} {x y : Operand} {kk : IntKind} {i : Int} {k n c : Nat} {ao : Option Addr} {f : α → List Value} {xs : List α} (hx : ev ρ x = .slice ao n c) (hy : ev ρ y = .int kk i)
    (ht : P.underlying t = some (.slice e)) (hs : ∀ w, (sizeOf e).run P w = .ok k w) (hR : Rd F w k (.slice ao n c) (xs.map f)) (h0 : 0 ≤ i) (h1 : i < xs.length)
    (hk : ∀ b o x, xs[i.toNat]? = some x → F b → At w ⟨b, o, none⟩ (f x) → K (.pointer (some ⟨b, o, none⟩)) w) : OpK P ⟨dst, .indexAddr t x y, ty, pos, aft, gd⟩ ρ w K := by
  refine o_idx hx hy ht hs hR h0 (by simpa using h1) (fun b o cs hcs _ hF hA => ?_)
  rw [List.getElem?_map] at hcs
  obtain ⟨x, hx1, rfl⟩ := Option.map_eq_some_iff.1 hcs
  exact hk b o x hx1 hF hA

theorem setL_eq : ∀ (vs cs : List Value) (o : Nat), o + vs.length ≤ cs.length → setL cs o vs = cs.take o ++ vs ++ cs.drop (o + vs.length)
  | [], cs, o, _ => by simp [setL]
  | v :: vs, cs, o, h => by
    simp only [List.length_cons] at h
    have hlt : o < cs.length := by omega
    rw [setL, setL_eq vs _ (o + 1) (by simp; omega)]
    rw [List.take_set, List.drop_set, if_pos (by omega)]
    have e1 : (cs.take (o + 1)).set o v = cs.take o ++ [v] := by
      rw [List.take_succ_eq_append_getElem hlt, List.set_append_right _ _ (by simp; omega)]
      congr 1
      have : o - (cs.take o).length = 0 := by simp; omega
      rw [this]; rfl
    rw [e1]
    have e2 : o + 1 + vs.length = o + (v :: vs).length := by simp; omega
    rw [e2]
    simp
def fillL (places : List (Nat × Nat)) : List Value → List (Nat × Value) → Option (List Value)
  | cs, [] => some cs
  | cs, (i, v) :: r =>
    match places[i]? with
    | none => none
    | some (off, sz) => if v.cells.size ≠ sz ∨ off + sz > cs.length then none else fillL places (setL cs off v.cells.toList) r
theorem fill_step (v : Value) (cs : List Value) (off : Nat) (h : off + v.cells.size ≤ cs.length) :
    (v.cells.zipIdx.foldl (fun acc (p : Value × Nat) => acc.setIfInBounds (off + p.2) p.1) cs.toArray) = (setL cs off v.cells.toList).toArray := by
  apply Array.toList_inj.1
  have h1 := foldl_set v.cells.toList cs.toArray off (by simpa using h)
  have h2 : v.cells.toList.toArray = v.cells := by simp
  rw [h2] at h1
  rw [h1, setL_eq _ _ _ (by simpa using h)]
theorem fill_eq (places : List (Nat × Nat)) : ∀ (parts : List (Nat × Value)) (cs cs' : List Value), fillL places cs parts = some cs' → Instr.fill (places.toArray[·]?) cs.toArray parts = some cs'.toArray
  | [], cs, cs', h => by simp only [fillL, Option.some.injEq] at h; subst h; rfl
  | (i, v) :: r, cs, cs', h => by
    simp only [fillL] at h
    cases hp : places[i]? with
    | none => rw [hp] at h; cases h
    | some q =>
      obtain ⟨off, sz⟩ := q
      rw [hp] at h
      simp only at h
      split at h
      · cases h
      · rename_i hc
        have hsz : v.cells.size = sz := by
          by_cases e : v.cells.size = sz
          · exact e
          · exact absurd (.inl e) hc
        have hle : off + sz ≤ cs.length := by
          by_cases e : off + sz ≤ cs.length
          · exact e
          · exact absurd (.inr (by omega)) hc
        have ih := fill_eq places r _ _ h
        unfold Instr.fill
        have hp' : places.toArray[i]? = some (off, sz) := by simpa using hp
        simp only [hp', hsz]
        rw [if_neg (by simp; omega)]
        rw [show (v.cells.zipIdx.foldl (fun cs (c, j) => cs.setIfInBounds (off + j) c) cs.toArray) = (setL cs off v.cells.toList).toArray from fill_step v cs off (by omega)]
        exact ih
structure StructTy (P : Program) (t : TypeId) (z : List Value) (places : Array (Nat × Nat)) : Prop where
  zero : ∀ w, (zeroValue t).run P w = .ok (.agg z.toArray) w
  fs : ∃ fs, P.underlying t = some (.struct fs) ∧ ∀ w, (fs.mapM (fun (f : Field) => do pure (f.offset, ← sizeOf f.type))).run P w = .ok places w
theorem o_build {t : TypeId} {z cs : List Value} {pl : List (Nat × Nat)} {l : List (Nat × Operand)} (hT : StructTy P t z pl.toArray) (hf : fillL pl z (l.map fun p => (p.1, ev ρ p.2)) = some cs) (hk : K (.agg cs.toArray) w) :
    OpK P ⟨dst, .build t l.toArray, ty, pos, aft, gd⟩ ρ w K := by
  obtain ⟨fs, h1, h2⟩ := hT.fs
  have hu : (underlying t).run P w = .ok (.struct fs) w := by simp [underlying, h1]
  have hff := fill_eq pl _ _ _ hf
  simp only [OpK, execOp, Instr.build]
  have h3 := h2 w
  have hz := hT.zero w
  simp only [Sem.run_bind, hz, Result.andThen, hu, Value.cells]
  rw [h3]
  simp only [List.map_toArray]
  have e : (l.map fun (p : Nat × Operand) => match p with | (i, x) => (i, ev ρ x)) = (l.map fun p => (p.1, ev ρ p.2)) := by
    apply List.map_congr_left; intro p _; rfl
  simp only [e, hff, Sem.run_pure, OpU]
  exact hk
theorem fill_enum {k : Nat} : ∀ (vs : List Value) (i : Nat) (cs : List Value), vs.all (fun v => v.cells.size == k) = true → (i + vs.length) * k ≤ cs.length →
    Instr.fill (fun i => some (i * k, k)) cs.toArray (enumV i vs) = some (cs.take (i * k) ++ vs.flatMap (fun v => v.cells.toList) ++ cs.drop ((i + vs.length) * k)).toArray
  | [], i, cs, _, _ => by simp [enumV, Instr.fill]
  | v :: vs, i, cs, hv, h => by
    simp only [List.all_cons, Bool.and_eq_true, beq_iff_eq] at hv
    have hvk := hv.1
    simp only [List.length_cons] at h
    have e0 : (i + (vs.length + 1)) * k = (i + 1 + vs.length) * k := by congr 1; omega
    have e1 : (i + 1) * k = i * k + k := Nat.succ_mul i k
    have hle : (i + 1) * k ≤ cs.length := Nat.le_trans (Nat.mul_le_mul_right k (by omega)) h
    simp only [enumV, Instr.fill, hvk]
    rw [if_neg (by simp; omega)]
    rw [show (v.cells.zipIdx.foldl (fun cs (c, j) => cs.setIfInBounds (i * k + j) c) cs.toArray) = (setL cs (i * k) v.cells.toList).toArray from fill_step v cs (i * k) (by omega)]
    rw [fill_enum vs (i + 1) _ hv.2 (by rw [setL_length, ← e0]; exact h)]
    have hl : v.cells.toList.length = k := by simpa using hvk
    rw [setL_eq _ _ _ (by rw [hl]; omega)]
    congr 1
    have t1 : (cs.take (i * k) ++ v.cells.toList ++ cs.drop (i * k + v.cells.toList.length)).take ((i + 1) * k) = cs.take (i * k) ++ v.cells.toList := by
      rw [List.take_left']
      simp only [List.length_append, List.length_take, hl, e1]; omega
    have t2 : (cs.take (i * k) ++ v.cells.toList ++ cs.drop (i * k + v.cells.toList.length)).drop ((i + 1 + vs.length) * k) = cs.drop ((i + (vs.length + 1)) * k) := by
      have hlen : (cs.take (i * k) ++ v.cells.toList).length = (i + 1) * k := by simp only [List.length_append, List.length_take, hl, e1]; omega
      have e2 : (i + 1 + vs.length) * k = (i + 1) * k + vs.length * k := Nat.add_mul _ _ _
      have e3 : (i + (vs.length + 1)) * k = i * k + k + vs.length * k := by rw [e0, e2, e1]
      rw [e2, ← hlen, List.drop_length_add_append, List.drop_drop, hl, e3]
    rw [t1, t2]
    simp [List.flatMap_cons]
theorem o_buildSlice {t e : TypeId} {n k bytes : Nat} {z : Value} {vs : List Value} {l : List (Nat × Operand)} (hv : l.map (fun p => (p.1, ev ρ p.2)) = enumV 0 vs) (ht : P.underlying t = some (.slice e)) (hE : Elt P e z k bytes)
    (hn : vs.length = n) (hall : vs.all (fun v => v.cells.size == k) = true) (hle : n * k ≤ 16777216)
    (hk : ∀ b w', w.heap.size ≤ b → w'.heap.size = w.heap.size + 1 → Ext w w' → Box w' b (vs.flatMap fun v => v.cells.toList) e → K (.slice (some ⟨b, 0, none⟩) n n) w') :
    OpK P ⟨dst, .buildSlice t n l.toArray, ty, pos, aft, gd⟩ ρ w K := by
  have hu : (underlying t).run P w = .ok (.slice e) w := by simp [underlying, ht]
  obtain ⟨i, h1, h2, h3, h4⟩ := hE.ok
  have hz : (zeroValue e).run P w = .ok z w := by simp [zeroValue, typeInfo, h1, h2]
  have hfl : ∀ (zs : List Value), n * k ≤ zs.length → zs.length = n * k → Instr.fill (fun i => some (i * k, k)) zs.toArray (l.map fun p => (p.1, ev ρ p.2)) = some (vs.flatMap fun v => v.cells.toList).toArray := by
    intro zs h5 h6
    rw [hv, fill_enum vs 0 zs hall (by rw [Nat.zero_add, hn]; exact h5)]
    simp only [Nat.zero_mul, List.take_zero, List.nil_append, Nat.zero_add, hn]
    rw [List.drop_eq_nil_of_le (by omega), List.append_nil]
  have emap : (l.map fun (p : Nat × Operand) => match p with | (i, x) => (i, ev ρ x)) = (l.map fun p => (p.1, ev ρ p.2)) := by
    apply List.map_congr_left; intro p _; rfl
  have h24 : ¬ (n * k > 2 ^ 24) := by have : (2 : Nat) ^ 24 = 16777216 := by decide
                                      omega
  simp only [OpK, execOp, Instr.buildSlice]
  simp only [Sem.run_bind, hu, Result.andThen, hE.size w]
  simp only [List.map_toArray, emap]
  have hh : ∀ (zs : Array Value), zs.size = n * k → Instr.fill (fun i => some (i * k, k)) zs (l.map fun p => (p.1, ev ρ p.2)) = some (vs.flatMap fun v => v.cells.toList).toArray := by
    intro zs h5
    have := hfl zs.toList (by simp [h5]) (by simp [h5])
    simpa using this
  have hmap : ∀ (c : Array Value), ((Array.range (n * k)).map (c[· % c.size]!)).size = n * k := by intro c; simp
  rw [if_neg h24]
  by_cases hnz : n * k = 0
  · simp only [hnz, if_true, Sem.run_pure, Sem.run_bind, Result.andThen]
    have := hh ((Array.range 0).map ((#[] : Array Value)[· % (#[] : Array Value).size]!)) (by simp [hnz])
    simp only [this]
    simp [newRow, newObj, Sem.run, OpU]
    refine hk w.heap.size _ (Nat.le_refl _) (by simp) (ext_alloc w _) ?_
    simpa using box_push w (vs.flatMap fun v => v.cells.toList) e
  · simp only [hnz, if_false, Sem.run_pure, Sem.run_bind, Result.andThen, hz]
    have := hh _ (hmap z.cells)
    simp only [this]
    simp [newRow, newObj, Sem.run, OpU]
    refine hk w.heap.size _ (Nat.le_refl _) (by simp) (ext_alloc w _) ?_
    simpa using box_push w (vs.flatMap fun v => v.cells.toList) e
end ops

/-! ### saying anew what is known of an environment -/
theorem cw_norm {P : Program} {n : Cx} {c : Code} {Q : Exit → Env → World → Prop} {ρ : Env} {w : World} (l : List (Nat × Value)) (h : AllEq ρ l) (hc : ∀ ρ0, CW P n c Q (upds ρ0 l) w) : CW P n c Q ρ w := by
  rw [upds_eq ρ l h]; exact hc ρ
theorem rl_norm {P : Program} {ops : Array Oper} {K : Env → World → Prop} {r : List Oper} {ρ : Env} {w : World} (l : List (Nat × Value)) (h : AllEq ρ l) (hc : ∀ ρ0, RL P ops K r (upds ρ0 l) w) : RL P ops K r ρ w := by
  rw [upds_eq ρ l h]; exact hc ρ
theorem opk_norm {P : Program} {o : Oper} {ρ : Env} {w : World} {K : Value → World → Prop} (l : List (Nat × Value)) (h : AllEq ρ l) (hc : ∀ ρ0, OpK P o (upds ρ0 l) w K) : OpK P o ρ w K := by
  rw [upds_eq ρ l h]; exact hc ρ
def upAll : List RS → Prop
  | [] => True
  | s :: rs => s.up ∧ upAll rs
theorem upAll.at {p : Nat} : ∀ {rs : List RS}, upAll rs → ∀ j, j < p → (rsAt rs j).up
  | [], _, j, _ => by simp [rsAt, RS.up]
  | s :: rs, h, 0, _ => h.1
  | s :: rs, h, j + 1, hj => by
    have := upAll.at (p := p) h.2 j (by omega)
    simpa [rsAt] using this
section
variable {P : Program} {l : List Oper} {rs : List RS} {bs : List (List Nat)} {ρ : Env} {w0 : World} {k : Nat}
theorem obl_mk {o : Oper} (ho : l[k]? = some o) (h : ∀ w vs, Ext w0 w → knownB rs vs w (bAt bs k) → OblOp P l.toArray o (envB ρ l rs vs (bAt bs k)) w (rsAt rs k)) : Obl P l rs bs ρ w0 k := by
  intro w vs hE hk
  rw [ho]
  exact h w vs hE hk
theorem obl_t {ops : Array Oper} {o : Oper} {w : World} {s : RS} (hw : Region.wanted o (yieldE ops ρ) = true) (h : OpK P o ρ w (fun v w' => Ext w w' ∧ s.sat v w')) : OblOp P ops o ρ w s := by
  unfold OblOp; rw [if_pos hw]; exact h
theorem obl_f {ops : Array Oper} {o : Oper} {w : World} {s : RS} (h : s.sat undef w) (hw : Region.wanted o (yieldE ops ρ) = false) : OblOp P ops o ρ w s := by
  unfold OblOp; rw [if_neg (by rw [hw]; decide)]; exact h
end
theorem cw_drawn {P : Program} {n : Cx} {l : List Oper} {ρ : Env} {Q : Exit → Env → World → Prop} {id : Nat} {w : World} {y : Code} (rs : List RS) (bs : List (List Nat)) (p : Nat) (hm : P.follows .mixedOrders = true) (hok : okDraw n.size l bs p = true) (hup : upAll rs)
    (hobl : OblAll P l rs bs ρ w p)
    (hfin : ∀ w1 vs, Ext w w1 → knownB rs vs w1 (List.range p).reverse → RL P l.toArray (fun ρ w => CW P n y Q ρ w) (l.drop p) (envB ρ l rs vs (List.range p).reverse) w1) :
    CW P n (.seq (.region id l.toArray true) y) Q ρ w := cw_seq (cw_draw rs bs p hm hok (fun j hj => hup.at j hj) hobl hfin)
theorem cw_drawn1 {P : Program} {n : Cx} {l : List Oper} {ρ : Env} {Q : Exit → Env → World → Prop} {id : Nat} {w : World} (rs : List RS) (bs : List (List Nat)) (p : Nat) (hm : P.follows .mixedOrders = true) (hok : okDraw n.size l bs p = true) (hup : upAll rs)
    (hobl : OblAll P l rs bs ρ w p)
    (hfin : ∀ w1 vs, Ext w w1 → knownB rs vs w1 (List.range p).reverse → RL P l.toArray (Q .normal) (l.drop p) (envB ρ l rs vs (List.range p).reverse) w1) :
    CW P n (.region id l.toArray true) Q ρ w := cw_draw rs bs p hm hok (fun j hj => hup.at j hj) hobl hfin
end Go.Proofs.YtcmlklnelipacaaDoor

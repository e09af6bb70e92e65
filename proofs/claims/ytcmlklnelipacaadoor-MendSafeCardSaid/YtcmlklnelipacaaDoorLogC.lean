/- More laws of operations: stores, calls, slices, appends. Over whatever program. -/
import Derived.Test.YtcmlklnelipacaaDoorLogB
set_option linter.unusedVariables false
set_option linter.unusedSimpArgs false
namespace Go.Proofs.YtcmlklnelipacaaDoor
open Go.RowKit

def one : Value → Bool
  | .agg _ => false
  | .tuple _ => false
  | _ => true
def setL : List Value → Nat → List Value → List Value
  | cs, _, [] => cs
  | cs, o, v :: vs => setL (cs.set o v) (o + 1) vs
theorem setL_length : ∀ (vs cs : List Value) (o : Nat), (setL cs o vs).length = cs.length
  | [], _, _ => rfl
  | v :: vs, cs, o => by rw [setL, setL_length vs]; simp
theorem one_cell' {v : Value} (h : one v = true) : v.oneCell' = true := by cases v <;> first | rfl | (simp [one] at h)

section ops
variable {P : Program} {ρ : Env} {w : World} {K : Value → World → Prop} {dst : Option Tmp} {ty : TypeId} {pos : String} {aft : Array Edge} {gd : Option (Nat × Bool)}

theorem run_store1 {b o : Nat} {cs : List Value} {T : TypeId} {v : Value} (hB : Box w b cs T) (h1 : one v = true) (ho : o < cs.length) :
    (store ⟨b, o, none⟩ v).run P w = .ok () (w.setCell ⟨b, o, none⟩ v) := by
  have hc := hB.cell o
  rw [List.getElem?_eq_getElem ho] at hc
  have hf := hB.free o
  unfold store
  cases v <;> first
    | (simp [one] at h1; done)
    | simp [Sem.run, hc, hf]
theorem box_set {b o : Nat} {cs : List Value} {T : TypeId} (v : Value) (hB : Box w b cs T) : Box (w.setCell ⟨b, o, none⟩ v) b (cs.set o v) T := by
  have hlt := hB.lt
  unfold Box at *
  show (w.heap.modify b _)[b]? = _
  rw [Array.getElem?_modify, if_pos rfl, hB]
  simp
theorem kp_set (b o : Nat) (v : Value) : Kp (fun k => k = b) w (w.setCell ⟨b, o, none⟩ v) :=
  ⟨rfl, rfl, rfl, by simp [World.setCell], fun k hk hs => by
    show (w.heap.modify b _)[k]? = _
    rw [Array.getElem?_modify, if_neg (fun e => hs e.symm)]⟩
theorem run_storeCells (P : Program) {b : Nat} {T : TypeId} : ∀ (vs : List Value) (w : World) (cs : List Value) (o i : Nat), Box w b cs T → (∀ u ∈ vs, one u = true) → o + i + vs.length ≤ cs.length →
    ∃ w', (storeCells ⟨b, o, none⟩ vs i).run P w = .ok () w' ∧ Kp (fun k => k = b) w w' ∧ w'.heap.size = w.heap.size ∧ Box w' b (setL cs (o + i) vs) T
  | [], w, cs, o, i, hB, _, _ => ⟨w, rfl, Kp.refl _ _, rfl, hB⟩
  | v :: vs, w, cs, o, i, hB, h1, hle => by
    have hv := h1 v (by simp)
    simp only [List.length_cons] at hle
    have hr := run_store1 (P := P) (o := o + i) hB hv (by omega)
    obtain ⟨w', hr', hk, hs, hB'⟩ := run_storeCells P vs (w.setCell ⟨b, o + i, none⟩ v) (cs.set (o + i) v) o (i + 1) (box_set v hB) (fun u hu => h1 u (by simp [hu])) (by simp; omega)
    refine ⟨w', ?_, (kp_set b (o + i) v).trans hk, by rw [hs]; simp [World.setCell], hB'⟩
    unfold storeCells
    rw [add_lit, Sem.run_bind, hr]
    exact hr'
theorem o_store {t T : TypeId} {n : Nat} {x y : Operand} {b o : Nat} {cs vs : List Value} {v : Value} (hx : ev ρ x = .pointer (some ⟨b, o, none⟩)) (hy : ev ρ y = v) (hB : Box w b cs T)
    (ht : ∀ w, (sizeOf t).run P w = .ok n w) (hvs : v.cells = vs.toArray) (hn : vs.length = n) (h1 : ∀ u ∈ vs, one u = true) (hle : o + n ≤ cs.length)
    (hk : ∀ w', Kp (fun k => k = b) w w' → w'.heap.size = w.heap.size → Box w' b (setL cs o vs) T → K undef w') : OpK P ⟨dst, .store t x y, ty, pos, aft, gd⟩ ρ w K := by
  obtain ⟨w', hr, h2, h3, h4⟩ := run_storeCells P vs w cs o 0 hB h1 (by omega)
  have hsz : v.cells.size = n := by rw [hvs]; simpa using hn
  have hl : v.cells.toList = vs := by rw [hvs]
  simp only [OpK, execOp, hx, hy]
  simp [Instr.storeAt, Instr.sureAddr, storeVar, ht, hsz, hl, hr, OpU]
  exact hk w' h2 h3 (by simpa using h4)
/-- A value of one cell. -/
theorem o_store1 {t T : TypeId} {x y : Operand} {b o : Nat} {cs : List Value} {v : Value} (hx : ev ρ x = .pointer (some ⟨b, o, none⟩)) (hy : ev ρ y = v) (hB : Box w b cs T)
    (ht : TyS P t) (h1 : one v = true) (hle : o < cs.length)
    (hk : ∀ w', Kp (fun k => k = b) w w' → w'.heap.size = w.heap.size → Box w' b (cs.set o v) T → K undef w') : OpK P ⟨dst, .store t x y, ty, pos, aft, gd⟩ ρ w K :=
  o_store (vs := [v]) hx hy hB ht.size (by cases v <;> first | rfl | (simp [one] at h1)) rfl (fun u hu => by simp at hu; subst hu; exact h1) hle (fun w' a b c => hk w' a b c)
/-- An aggregate. -/
theorem o_storeA {t T : TypeId} {n : Nat} {x y : Operand} {b o : Nat} {cs vs : List Value} (hx : ev ρ x = .pointer (some ⟨b, o, none⟩)) (hy : ev ρ y = .agg vs.toArray) (hB : Box w b cs T)
    (ht : TyA P t n) (hn : vs.length = n) (h1 : vs.all one = true) (hle : o + n ≤ cs.length)
    (hk : ∀ w', Kp (fun k => k = b) w w' → w'.heap.size = w.heap.size → Box w' b (setL cs o vs) T → K undef w') : OpK P ⟨dst, .store t x y, ty, pos, aft, gd⟩ ρ w K :=
  o_store hx hy hB ht.size rfl hn (List.all_eq_true.1 h1) hle hk

/-! calls -/
theorem o_call {f : FuncId} {l : List Operand} {ats : Array TypeId} {S : Nat → Prop} {Φ : Value → World → Prop} (h : Calls P f (l.map (ev ρ)).toArray w (Ret S w Φ))
    (hf : ∀ args w, (callFunc f args).run P w = .ok (.enter f args) w) (hk : ∀ v w', Kp S w w' → Φ v w' → K v w') : OpK P ⟨dst, .call ⟨.value (.func f), l.toArray, ats⟩, ty, pos, aft, gd⟩ ρ w K := by
  simp only [OpK, execOp, resolve, ev, Deferred.ofValue]
  simp [invoke, hf, OpU]
  exact Calls.mono h (fun e w' ⟨v, he, h1, h2⟩ => ⟨v, he, hk v w' h1 h2⟩)
theorem o_callDyn {f : FuncId} {x : Operand} {caps : List Value} {l : List Operand} {ats : Array TypeId} {S : Nat → Prop} {Φ : Value → World → Prop} (hx : ev ρ x = .func (.func f) #[] caps.toArray)
    (h : Calls P f (l.map (ev ρ) ++ caps).toArray w (Ret S w Φ))
    (hf : ∀ args w, (callFunc f args).run P w = .ok (.enter f args) w) (hk : ∀ v w', Kp S w w' → Φ v w' → K v w') : OpK P ⟨dst, .call ⟨.value x, l.toArray, ats⟩, ty, pos, aft, gd⟩ ρ w K := by
  simp only [OpK, execOp, resolve, hx, Deferred.ofValue]
  simp [invoke, hf, OpU]
  refine Calls.mono h ?_
  rintro e w' ⟨v, he, h1, h2⟩
  exact ⟨v, he, hk v w' h1 h2⟩
theorem o_makeFunc {fn : Fn} {l : List Operand} (hk : K (.func fn #[] (l.map (ev ρ)).toArray) w) : OpK P ⟨dst, .makeFunc fn #[] l.toArray, ty, pos, aft, gd⟩ ρ w K := by
  simp only [OpK, execOp]
  simp [Instr.makeFunc, OpU]; exact hk
theorem o_extract {x : Operand} {i : Nat} {vs : List Value} {v : Value} (hx : ev ρ x = .tuple vs.toArray) (hv : vs[i]? = some v) (hk : K v w) : OpK P ⟨dst, .extract x i, ty, pos, aft, gd⟩ ρ w K := by
  simp only [OpK, execOp, hx]
  simp [Instr.extract, hv, OpU]; exact hk
theorem o_nil {x : Operand} {a : Addr} (hx : ev ρ x = .pointer (some a)) (hk : K (.pointer (some a)) w) : OpK P ⟨dst, .nilCheck x, ty, pos, aft, gd⟩ ρ w K := by
  simp only [OpK, execOp, hx]
  simp [OpU]; exact hk
theorem o_max {x y : Operand} {ats : Array TypeId} {k : IntKind} {a b : Int} (hx : ev ρ x = .int k a) (hy : ev ρ y = .int k b) (hk : K (.int k (max a b)) w) : OpK P ⟨dst, .call ⟨.builtin .max, #[x, y], ats⟩, ty, pos, aft, gd⟩ ρ w K := by
  have e : (if b > a then b else a) = max a b := by rw [Int.max_def]; split <;> split <;> omega
  simp only [OpK, execOp, resolve]
  simp [hx, hy, invoke, builtin, Builtin.max_, Builtin.max2, OpU]
  rw [← e] at hk; exact hk
theorem o_min {x y : Operand} {ats : Array TypeId} {k : IntKind} {a b : Int} (hx : ev ρ x = .int k a) (hy : ev ρ y = .int k b) (hk : K (.int k (min a b)) w) : OpK P ⟨dst, .call ⟨.builtin .min, #[x, y], ats⟩, ty, pos, aft, gd⟩ ρ w K := by
  have e : (if b < a then b else a) = min a b := by rw [Int.min_def]; split <;> split <;> omega
  simp only [OpK, execOp, resolve]
  simp [hx, hy, invoke, builtin, Builtin.min_, Builtin.min2, OpU]
  rw [← e] at hk; exact hk
theorem o_conv {s t : TypeId} {x : Operand} {k k' : IntKind} {a : Int} (hx : ev ρ x = .int k' a) (hs : ∃ d, P.underlying s = some d) (ht : P.underlying t = some (.int k)) (hk : K (.int k (k.wrap a)) w) : OpK P ⟨dst, .convert s t x, ty, pos, aft, gd⟩ ρ w K := by
  obtain ⟨d, hd⟩ := hs
  have h1 : (underlying s).run P w = .ok d w := by simp [underlying, hd]
  have h2 : (underlying t).run P w = .ok (.int k) w := by simp [underlying, ht]
  simp only [OpK, execOp, hx, convert]
  simp [h1, h2, Conv.intToInt, OpU]; exact hk
theorem o_convI {s t : TypeId} {x : Operand} {k k' : IntKind} {a : Int} (hx : ev ρ x = .int k' a) (hs : ∃ d, P.underlying s = some d) (ht : P.underlying t = some (.int k)) (h0 : k.min ≤ a) (h1 : a ≤ k.max) (hk : K (.int k a) w) : OpK P ⟨dst, .convert s t x, ty, pos, aft, gd⟩ ρ w K :=
  o_conv hx hs ht (by rw [wrap_in h0 h1]; exact hk)

/-! slices -/
theorem o_idx {F : Nat → Prop} {t e : TypeId} {x y : Operand} {kk : IntKind} {i : Int} {k n c : Nat} {ao : Option Addr} {css : List (List Value)} (hx : ev ρ x = .slice ao n c) (hy : ev ρ y = .int kk i)
    (ht : P.underlying t = some (.slice e)) (hs : ∀ w, (sizeOf e).run P w = .ok k w) (hR : Rd F w k (.slice ao n c) css) (h0 : 0 ≤ i) (h1 : i < css.length)
    (hk : ∀ b o cs, css[i.toNat]? = some cs → cs.length = k → F b → At w ⟨b, o, none⟩ cs → K (.pointer (some ⟨b, o, none⟩)) w) : OpK P ⟨dst, .indexAddr t x y, ty, pos, aft, gd⟩ ρ w K := by
  obtain ⟨ao', c', hv, hc, hl, hcs⟩ := hR
  simp only [Value.slice.injEq] at hv
  obtain ⟨rfl, rfl, rfl⟩ := hv
  have hne : css ≠ [] := by rintro rfl; simp at h1; omega
  obtain ⟨b, o, rfl, hb, hF, hat⟩ := hcs hne
  have hlt : i.toNat < css.length := by omega
  have hu : (underlying t).run P w = .ok (.slice e) w := by simp [underlying, ht]
  simp only [OpK, execOp, hx, hy]
  simp [Instr.indexAt, asIntOf, hu, hs, h0, h1, OpU]
  rw [add_lit]
  exact hk b _ _ (List.getElem?_eq_getElem hlt) (hl _ (List.getElem_mem hlt)) hF (hat _ _ (List.getElem?_eq_getElem hlt))
theorem o_idxArr {t e : TypeId} {x y : Operand} {kk : IntKind} {i : Int} {k n b o : Nat} (hx : ev ρ x = .pointer (some ⟨b, o, none⟩)) (hy : ev ρ y = .int kk i)
    (ht : P.underlying t = some (.array n e)) (hs : ∀ w, (sizeOf e).run P w = .ok k w) (h0 : 0 ≤ i) (h1 : i < n) (hk : K (.pointer (some ⟨b, o + i.toNat * k, none⟩)) w) : OpK P ⟨dst, .indexAddr t x y, ty, pos, aft, gd⟩ ρ w K := by
  have hu : (underlying t).run P w = .ok (.array n e) w := by simp [underlying, ht]
  simp only [OpK, execOp, hx, hy]
  simp [Instr.indexAt, Instr.sureAddr, asIntOf, hu, hs, h0, h1, OpU]
  rw [add_lit]; exact hk
theorem Rd.sub {F : Nat → Prop} {k c n : Nat} {ao : Option Addr} {css : List (List Value)} (h : Rd F w k (.slice ao n c) css) (l hi m : Nat) (hl : l ≤ hi) (hh : hi ≤ css.length) (hm : hi ≤ m) (hmc : m ≤ c) :
    Rd F w k (.slice (if m = l then ao else ao.map (·.add (l * k))) (hi - l) (m - l)) ((css.drop l).take (hi - l)) := by
  obtain ⟨ao', c', hv, hc, hlen, hcs⟩ := h
  simp only [Value.slice.injEq] at hv
  obtain ⟨rfl, rfl, rfl⟩ := hv
  have e : ((css.drop l).take (hi - l)).length = hi - l := by rw [List.length_take, List.length_drop]; omega
  refine ⟨(if m = l then ao else ao.map (·.add (l * k))), m - l, by rw [e], by rw [e]; omega, fun cs hc => hlen cs (List.mem_of_mem_drop (List.mem_of_mem_take hc)), fun hne => ?_⟩
  have hpos : l < hi := by
    by_cases hlt : l < hi
    · exact hlt
    · exfalso; apply hne; apply List.eq_nil_of_length_eq_zero; rw [e]; omega
  obtain ⟨b, o, rfl, hb, hF, hat⟩ := hcs (by rintro rfl; simp at hh; omega)
  refine ⟨b, o + l * k, by rw [if_neg (by omega)]; simp [add_lit], hb, hF, fun i cs hi => ?_⟩
  have h1 := get_take hi
  rw [List.getElem?_drop] at h1
  have := hat _ _ h1
  rw [Nat.add_mul, ← Nat.add_assoc] at this
  exact this
/-- x[:h] -/
theorem o_sliceTo {F : Nat → Prop} {t e : TypeId} {x y : Operand} {kk : IntKind} {i : Int} {k n c : Nat} {ao : Option Addr} {css : List (List Value)} (hx : ev ρ x = .slice ao n c) (hy : ev ρ y = .int kk i)
    (ht : P.underlying t = some (.slice e)) (hs : ∀ w, (sizeOf e).run P w = .ok k w) (hR : Rd F w k (.slice ao n c) css) (h0 : 0 ≤ i) (h1 : i ≤ css.length)
    (hk : ∀ ao' c', Rd F w k (.slice ao' i.toNat c') (css.take i.toNat) → K (.slice ao' i.toNat c') w) : OpK P ⟨dst, .slice t x none (some y) none, ty, pos, aft, gd⟩ ρ w K := by
  have hR' := hR
  obtain ⟨ao', c', hv, hc, _, _⟩ := hR'
  simp only [Value.slice.injEq] at hv
  obtain ⟨rfl, rfl, rfl⟩ := hv
  have hu : (underlying t).run P w = .ok (.slice e) w := by simp [underlying, ht]
  have := hR.sub 0 i.toNat c (Nat.zero_le _) (by omega) (by omega) (Nat.le_refl _)
  simp only [List.drop_zero, Nat.sub_zero] at this
  have hic : i ≤ c := by omega
  simp only [OpK, execOp, hx]
  simp [hy, Instr.sliceAt, Instr.slice, Instr.sliceBounds, Instr.sliceBound, asIntOf, hu, hs, h0, hic, OpU]
  simp only [Nat.zero_mul] at this
  exact hk _ _ this
/-- x[l:] -/
theorem o_sliceFrom {F : Nat → Prop} {t e : TypeId} {x y : Operand} {kk : IntKind} {i : Int} {k n c : Nat} {ao : Option Addr} {css : List (List Value)} (hx : ev ρ x = .slice ao n c) (hy : ev ρ y = .int kk i)
    (ht : P.underlying t = some (.slice e)) (hs : ∀ w, (sizeOf e).run P w = .ok k w) (hR : Rd F w k (.slice ao n c) css) (h0 : 0 ≤ i) (h1 : i ≤ css.length)
    (hk : ∀ ao' c', Rd F w k (.slice ao' (n - i.toNat) c') (css.drop i.toNat) → K (.slice ao' (n - i.toNat) c') w) : OpK P ⟨dst, .slice t x (some y) none none, ty, pos, aft, gd⟩ ρ w K := by
  have hR' := hR
  obtain ⟨ao', c', hv, hc, _, _⟩ := hR'
  simp only [Value.slice.injEq] at hv
  obtain ⟨rfl, rfl, rfl⟩ := hv
  have hu : (underlying t).run P w = .ok (.slice e) w := by simp [underlying, ht]
  have := hR.sub i.toNat css.length c (by omega) (Nat.le_refl _) hc (Nat.le_refl _)
  rw [List.take_of_length_le (by simp)] at this
  simp only [OpK, execOp, hx]
  simp [hy, Instr.sliceAt, Instr.slice, Instr.sliceBounds, Instr.sliceBound, asIntOf, hu, hs, h0, h1, OpU]
  exact hk _ _ this
/-- x[l:h:m] -/
theorem o_slice3 {F : Nat → Prop} {t e : TypeId} {x y z u : Operand} {k1 k2 k3 : IntKind} {i j m : Int} {k n c : Nat} {ao : Option Addr} {css : List (List Value)} (hx : ev ρ x = .slice ao n c) (hy : ev ρ y = .int k1 i) (hz : ev ρ z = .int k2 j) (hu' : ev ρ u = .int k3 m)
    (ht : P.underlying t = some (.slice e)) (hs : ∀ w, (sizeOf e).run P w = .ok k w) (hR : Rd F w k (.slice ao n c) css) (h0 : 0 ≤ i) (h1 : i ≤ j) (h2 : j ≤ css.length) (h3 : m = j)
    (hk : ∀ ao' c', Rd F w k (.slice ao' (j.toNat - i.toNat) c') ((css.drop i.toNat).take (j.toNat - i.toNat)) → K (.slice ao' (j.toNat - i.toNat) c') w) : OpK P ⟨dst, .slice t x (some y) (some z) (some u), ty, pos, aft, gd⟩ ρ w K := by
  subst h3
  have hR' := hR
  obtain ⟨ao', c', hv, hc, _, _⟩ := hR'
  simp only [Value.slice.injEq] at hv
  obtain ⟨rfl, rfl, rfl⟩ := hv
  have hu : (underlying t).run P w = .ok (.slice e) w := by simp [underlying, ht]
  have := hR.sub i.toNat m.toNat m.toNat (by omega) (by omega) (Nat.le_refl _) (by omega)
  have hm0 : 0 ≤ m := by omega
  have hmc : m ≤ c := by omega
  have hmx : max m 0 = m := by omega
  simp only [OpK, execOp, hx]
  simp [hy, hz, hu', Instr.sliceAt, Instr.slice, Instr.sliceBounds, Instr.sliceBound, asIntOf, hu, hs, h0, hm0, hmc, hmx, h1, OpU]
  exact hk _ _ this

/-! rows of the call's own -/
structure Elt (P : Program) (e : TypeId) (z : Value) (k bytes : Nat) : Prop where
  ok : ∃ i, P.info? e = some i ∧ i.zero = some z ∧ i.size = k ∧ i.bytes = bytes
  zs : z.cells.size = k
  pos : 0 < k
theorem Elt.size {e : TypeId} {z : Value} {k bytes : Nat} (h : Elt P e z k bytes) : ∀ w, (sizeOf e).run P w = .ok k w := by
  obtain ⟨i, h1, h2, h3, h4⟩ := h.ok
  intro w
  simp [sizeOf, typeInfo, h1, h3]
theorem own_form {base : Nat} {e : TypeId} {size n : Nat} {v : Value} {xs : List Value} (h : w.ownsRow base e size v n xs) : ∃ ao c, v = .slice ao n c := by
  rcases h.2 with ⟨rfl, rfl⟩ | ⟨g, cap, cur, rfl, _⟩
  · exact ⟨none, 0, rfl⟩
  · exact ⟨_, _, rfl⟩
theorem o_append {t e : TypeId} {s x : Operand} {z : Value} {k bytes base n m c : Nat} {v : Value} {xs news : List Value} {a : Addr} (hs : ev ρ s = v) (hx : ev ρ x = .slice (some a) m c)
    (ht : P.underlying t = some (.slice e)) (hE : Elt P e z k bytes) (hown : w.ownsRow base e k v n xs) (hnews : At w a news) (hl : news.length = m * k) (h1 : ∀ u ∈ news, one u = true)
    (hb : (n + m) * bytes ≤ 140737488355328) (h63 : n + m ≤ 9223372036854775807) (hbase : base ≤ w.heap.size)
    (hk : ∀ ao' c' w', Kp (fun j => some j = v.ownBlock) w w' → w'.ownsRow base e k (.slice ao' (n + m) c') (n + m) (xs ++ news) → K (.slice ao' (n + m) c') w') :
    OpK P ⟨dst, .call ⟨.builtin .append, #[s, x], #[t, t]⟩, ty, pos, aft, gd⟩ ρ w K := by
  obtain ⟨i, i1, i2, i3, i4⟩ := hE.ok
  obtain ⟨v', w', hr, ho, hg, _⟩ := run_append_own (P := P) (w := w) base t ty e i z k bytes ht i1 i2 i3 i4 hE.zs hE.pos v n xs hown a m c news hl hnews (fun u hu => one_cell' (h1 u hu)) (by simpa [maxLen] using h63) hb hbase
  obtain ⟨ao', c', rfl⟩ := own_form ho
  simp only [OpK, execOp, resolve]
  simp [hs, hx, invoke, builtin, hr, OpU]
  exact hk ao' c' w' (Kp.of_grown hg) ho
/-- Nothing is appended. -/
theorem o_append0 {t e : TypeId} {s x : Operand} {z : Value} {k bytes base n : Nat} {v : Value} {xs : List Value} (hs : ev ρ s = v) (hx : ev ρ x = .slice none 0 0)
    (ht : P.underlying t = some (.slice e)) (hE : Elt P e z k bytes) (hown : w.ownsRow base e k v n xs) (hk : K v w) :
    OpK P ⟨dst, .call ⟨.builtin .append, #[s, x], #[t, t]⟩, ty, pos, aft, gd⟩ ρ w K := by
  obtain ⟨i, i1, i2, i3, i4⟩ := hE.ok
  have hr := run_append_owned_none (P := P) w base t ty e i k ht i1 v n xs hown
  simp only [OpK, execOp, resolve]
  simp [hs, hx, invoke, builtin, hr, OpU]
  exact hk
end ops

/-! rows that are written out -/
def enumV : Nat → List Value → List (Nat × Value)
  | _, [] => []
  | i, v :: vs => (i, v) :: enumV (i + 1) vs
theorem foldl_set (cs : List Value) (a : Array Value) (off : Nat) (h : off + cs.length ≤ a.size) :
    ((cs.toArray.zipIdx).foldl (fun acc (p : Value × Nat) => acc.setIfInBounds (off + p.2) p.1) a).toList = a.toList.take off ++ cs ++ a.toList.drop (off + cs.length) := by
  have key : ∀ (cs : List Value) (a : Array Value) (j : Nat), off + j + cs.length ≤ a.size →
      ((cs.zipIdx j).foldl (fun acc (p : Value × Nat) => acc.setIfInBounds (off + p.2) p.1) a).toList = a.toList.take (off + j) ++ cs ++ a.toList.drop (off + j + cs.length) := by
    intro cs
    induction cs with
    | nil => intro a j h; simp
    | cons c cs ih =>
      intro a j h
      simp only [List.length_cons] at h
      simp only [List.zipIdx_cons, List.foldl_cons]
      rw [ih _ (j + 1) (by simp; omega)]
      have hlt : off + j < a.toList.length := by simp; omega
      simp only [Array.toList_setIfInBounds]
      rw [List.take_set, List.drop_set]
      rw [if_pos (by omega)]
      have e1 : (a.toList.take (off + (j + 1))).set (off + j) c = a.toList.take (off + j) ++ [c] := by
        rw [← Nat.add_assoc, List.take_succ_eq_append_getElem hlt]
        rw [List.set_append_right _ _ (by simp; omega)]
        congr 1
        have : off + j - (a.toList.take (off + j)).length = 0 := by simp; omega
        rw [this]; rfl
      rw [e1]
      have e2 : off + (j + 1) + cs.length = off + j + (cs.length + 1) := by omega
      rw [e2]
      simp
  have := key cs a 0 (by omega)
  simp only [Nat.add_zero] at this
  rw [← this]
  simp
end Go.Proofs.YtcmlklnelipacaaDoor

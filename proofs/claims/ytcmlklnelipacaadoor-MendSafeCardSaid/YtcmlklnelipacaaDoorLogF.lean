import Derived.Test.YtcmlklnelipacaaDoorLogE
/- More operations: appends of what is read, shifts, bits, rests, slices against nil. -/
set_option linter.unusedVariables false
set_option linter.unusedSimpArgs false
namespace Go.Proofs.YtcmlklnelipacaaDoor
open Go.RowKit
theorem own_mono {w : World} {base base' : Nat} {e : TypeId} {size n : Nat} {v : Value} {xs : List Value} (h : w.ownsRow base e size v n xs) (hb : base' ≤ base) : w.ownsRow base' e size v n xs := by
  refine ⟨h.1, ?_⟩
  rcases h.2 with h1 | ⟨g, cap, cur, h1, h2, h3⟩
  · exact .inl h1
  · exact .inr ⟨g, cap, cur, h1, Nat.le_trans hb h2, h3⟩
theorem Rd.box {w : World} {b k : Nat} {css : List (List Value)} {cs : List Value} {T : TypeId} (h : Box w b cs T) (hc : cs = css.flatten) (hl : ∀ x ∈ css, x.length = k) : Rd (fun _ => True) w k (.slice (some ⟨b, 0, none⟩) css.length css.length) css := by
  subst hc
  refine ⟨_, _, rfl, Nat.le_refl _, hl, fun hne => ⟨b, 0, rfl, h.lt, trivial, fun i cs hi j v hj => ?_⟩⟩
  rw [add_lit, h.cell]
  have := flat_get k css hl i cs hi j v hj
  simpa using this
theorem own_new {w : World} {b base : Nat} {cs : List Value} {T : TypeId} {k n : Nat} (h : Box w b cs T) (hb : base ≤ b) (hn : cs.length = n * k) (hm : n ≤ 1000) : w.ownsRow base T k (.slice (some ⟨b, 0, none⟩) n n) n cs := by
  refine ⟨hn, .inr ⟨b, n, cs.toArray, rfl, hb, h, Nat.le_refl _, by simp only [maxLen]; omega, by simp [hn], by simp [← hn]⟩⟩
theorem at_of_rows {w : World} {b o k : Nat} {css : List (List Value)} (hl : ∀ x ∈ css, x.length = k) (h : ∀ i cs, css[i]? = some cs → At w ⟨b, o + i * k, none⟩ cs) : At w ⟨b, o, none⟩ css.flatten := by
  induction css generalizing o with
  | nil => intro j v hj; simp at hj
  | cons c css ih =>
    intro j v hj
    have hc : c.length = k := hl c (by simp)
    simp only [List.flatten_cons] at hj
    by_cases hlt : j < c.length
    · rw [List.getElem?_append_left hlt] at hj
      have := h 0 c rfl j v hj
      simpa using this
    · rw [List.getElem?_append_right (by omega)] at hj
      have := ih (o := o + k) (fun x hx => hl x (by simp [hx])) (fun i cs hi => by
        have := h (i + 1) cs (by simpa using hi)
        rwa [show o + (i + 1) * k = o + k + i * k by rw [Nat.succ_mul]; omega] at this) (j - c.length) v hj
      rw [add_lit] at this ⊢
      rwa [show o + k + (j - c.length) = o + j by omega] at this
theorem Rd.get {α : Type} {F : Nat → Prop} {w : World} {k n c : Nat} {ao : Option Addr} {xs : List α} {f : α → List Value} (h : Rd F w k (.slice ao n c) (xs.map f)) (i : Nat) (hi : i < xs.length) :
    ∃ b o x, ao = some ⟨b, o, none⟩ ∧ xs[i]? = some x ∧ At w ⟨b, o + i * k, none⟩ (f x) := by
  obtain ⟨ao0, c0, hv, hc, hl, hcs⟩ := h
  injection hv with e1 e2 e3
  subst e1
  obtain ⟨b, o, ha, _, _, hat⟩ := hcs (by intro he; have := congrArg List.length he; simp at this; subst this; simp at hi)
  exact ⟨b, o, xs[i], ha, by simp [hi], hat i (f xs[i]) (by simp [hi])⟩
section ops
variable {P : Program} {w : World} {ρ : Env} {dst : Option Tmp} {ty : TypeId} {pos : String} {aft : Array Edge} {gd : Option (Nat × Bool)} {K : Value → World → Prop}
/-- Nothing is appended, whatever room it says. -/
theorem run_append_none_any (base : Nat) (t ty e : TypeId) (i : TypeInfo) (size : Nat) (ht : P.underlying t = some (.slice e)) (hi : P.info? e = some i)
    (v : Value) (n : Nat) (xs : List Value) (hown : w.ownsRow base e size v n xs) (c : Nat) :
    (Builtin.append_ #[t, t] ty #[v, .slice none 0 c]).run P w = .ok v w := by
  rcases hown.2 with ⟨rfl, rfl⟩ | ⟨g, cap, cur, rfl, _, _, hnc, _⟩
  · simp [Builtin.append_, run_underlying ht, sizeOf, typeInfo, hi, Builtin.lenOf, Builtin.firstCells]
  · simp [Builtin.append_, run_underlying ht, sizeOf, typeInfo, hi, Builtin.lenOf, Builtin.firstCells, hnc, storeCells]
/-- What is read is appended. -/
theorem o_appendR {F : Nat → Prop} {t e : TypeId} {s x : Operand} {z : Value} {k bytes base n m c : Nat} {v : Value} {ao : Option Addr} {xs : List Value} {css : List (List Value)} (hs : ev ρ s = v) (hx : ev ρ x = .slice ao m c)
    (ht : P.underlying t = some (.slice e)) (hE : Elt P e z k bytes) (hown : w.ownsRow base e k v n xs) (hR : Rd F w k (.slice ao m c) css) (h1 : ∀ cs ∈ css, ∀ u ∈ cs, one u = true)
    (hb : (n + m) * bytes ≤ 140737488355328) (h63 : n + m ≤ 9223372036854775807) (hbase : base ≤ w.heap.size)
    (hk : ∀ ao' c' w', Kp (fun j => some j = v.ownBlock) w w' → w'.ownsRow base e k (.slice ao' (n + m) c') (n + m) (xs ++ css.flatten) → K (.slice ao' (n + m) c') w') :
    OpK P ⟨dst, .call ⟨.builtin .append, #[s, x], #[t, t]⟩, ty, pos, aft, gd⟩ ρ w K := by
  obtain ⟨ao0, c0, hv, hc, hl, hcs⟩ := hR
  injection hv with e1 e2 e3
  subst e1; subst e2; subst e3
  have hone : ∀ u ∈ css.flatten, one u = true := by
    intro u hu
    obtain ⟨cs, hcs', hu⟩ := List.mem_flatten.1 hu
    exact h1 cs hcs' u hu
  cases ao with
  | some a =>
    have hat : At w a css.flatten := by
      by_cases hne : css = []
      · subst hne; intro j v hj; simp at hj
      · obtain ⟨b, o, ha, _, _, h⟩ := hcs hne
        injection ha with ha
        subst ha
        exact at_of_rows hl h
    exact o_append hs hx ht hE hown hat (flat_len k css hl) hone hb h63 hbase hk
  | none =>
    have hne : css = [] := by
      by_cases hne : css = []
      · exact hne
      · obtain ⟨b, o, ha, _⟩ := hcs hne; cases ha
    subst hne
    obtain ⟨i, i1, i2, i3, i4⟩ := hE.ok
    have hr := run_append_none_any (P := P) (w := w) base t ty e i k ht i1 v n xs hown c
    obtain ⟨ao', c', rfl⟩ := own_form hown
    simp only [OpK, execOp, resolve]
    simp [hs, hx, invoke, builtin, hr, OpU]
    exact hk ao' c' w (Kp.refl _ _) (by simpa using hown)
theorem o_idxAt {t e : TypeId} {x y : Operand} {kk : IntKind} {i : Int} {k n c b o : Nat} {ao : Option Addr} (j : Nat) (hx : ev ρ x = .slice ao n c) (hy : ev ρ y = .int kk i)
    (ht : P.underlying t = some (.slice e)) (hs : ∀ w, (sizeOf e).run P w = .ok k w) (ha : ao = some ⟨b, o, none⟩) (hj : i = (j : Int)) (hn : j < n) (hk : K (.pointer (some ⟨b, o + j * k, none⟩)) w) :
    OpK P ⟨dst, .indexAddr t x y, ty, pos, aft, gd⟩ ρ w K := by
  subst ha; subst hj
  have hu : (underlying t).run P w = .ok (.slice e) w := by simp [underlying, ht]
  have h0 : (0 : Int) ≤ (j : Int) := by omega
  have h1 : (j : Int) < (n : Int) := by omega
  simp only [OpK, execOp, hx, hy]
  simp [Instr.indexAt, asIntOf, hu, hs, h0, hn, OpU]
  rw [add_lit]
  exact hk
theorem o_nilEq {t e : TypeId} {x : Operand} {ao : Option Addr} {m c : Nat} (hx : ev ρ x = .slice ao m c) (ht : P.underlying t = some (.slice e)) (hk : K (.bool ao.isNone) w) :
    OpK P ⟨dst, .binOp .eql t x (.const (.slice none 0 0)) t, ty, pos, aft, gd⟩ ρ w K := by
  have hg : (eqGuard .eql t x (.const (.slice none 0 0)) (.slice ao m c) (.slice none 0 0)).run P w = .ok () w := by
    unfold eqGuard; rfl
  have hn : ev ρ (.const (.slice none 0 0)) = .slice none 0 0 := rfl
  simp only [OpK, execOp, hx, hn]
  have h2 : (binOp .eql t (.slice ao m c) (.slice none 0 0)).run P w = .ok (.bool ao.isNone) w := by
    have e1 : binOp .eql t (.slice ao m c) (.slice none 0 0) = (do pure (.bool (← Op.equal t (.slice ao m c) (.slice none 0 0)))) := rfl
    rw [e1]
    have h3 : ∀ d : Nat, (Op.equalIn (d + 1) t (.slice ao m c) (.slice none 0 0)).run P w = .ok ao.isNone w := by
      intro d; cases ao <;> simp [Op.equalIn, run_underlying ht]
    have h4 : (Op.equal t (.slice ao m c) (.slice none 0 0)).run P w = .ok ao.isNone w := h3 9999
    simp [h4, Result.andThen]
  simp [hg, h2, OpU, Result.andThen]; exact hk
def xorI (k : IntKind) (a b : Int) : Int := k.wrap (BitVec.ofInt k.bits a ^^^ BitVec.ofInt k.bits b).toNat
def andI (k : IntKind) (a b : Int) : Int := k.wrap (BitVec.ofInt k.bits a &&& BitVec.ofInt k.bits b).toNat
def orI (k : IntKind) (a b : Int) : Int := k.wrap (BitVec.ofInt k.bits a ||| BitVec.ofInt k.bits b).toNat
theorem o_xor {t t' : TypeId} {x y : Operand} {k : IntKind} {a b : Int} (hx : ev ρ x = .int k a) (hy : ev ρ y = .int k b) (hk : K (.int k (xorI k a b)) w) : OpK P ⟨dst, .binOp .xor t x y t', ty, pos, aft, gd⟩ ρ w K :=
  o_int hx hy (by simp [binOp, Op.intBits, xorI]) hk
theorem o_and {t t' : TypeId} {x y : Operand} {k : IntKind} {a b : Int} (hx : ev ρ x = .int k a) (hy : ev ρ y = .int k b) (hk : K (.int k (andI k a b)) w) : OpK P ⟨dst, .binOp .and t x y t', ty, pos, aft, gd⟩ ρ w K :=
  o_int hx hy (by simp [binOp, Op.intBits, andI]) hk
theorem o_or {t t' : TypeId} {x y : Operand} {k : IntKind} {a b : Int} (hx : ev ρ x = .int k a) (hy : ev ρ y = .int k b) (hk : K (.int k (orI k a b)) w) : OpK P ⟨dst, .binOp .or t x y t', ty, pos, aft, gd⟩ ρ w K :=
  o_int hx hy (by simp [binOp, Op.intBits, orI]) hk
theorem o_rem {t t' : TypeId} {x y : Operand} {k : IntKind} {a b : Int} (hx : ev ρ x = .int k a) (hy : ev ρ y = .int k b) (hb : 0 < b) (ha : 0 ≤ a) (hk : K (.int k (a % b)) w) : OpK P ⟨dst, .binOp .rem t x y t', ty, pos, aft, gd⟩ ρ w K :=
  o_int hx hy (by simp [binOp, Op.intDiv, Int.ne_of_gt hb, Int.tmod_eq_emod_of_nonneg ha]) hk
theorem o_sh {op : BinOp} {t t' : TypeId} {x y : Operand} {k yk : IntKind} {a b : Int} {v : Value} (hx : ev ρ x = .int k a) (hy : ev ρ y = .int yk b)
    (h : (binOp op t (.int k a) (.int yk b)).run P w = .ok v w) (hk : K v w) : OpK P ⟨dst, .binOp op t x y t', ty, pos, aft, gd⟩ ρ w K := by
  have hg : (eqGuard op t x y (.int k a) (.int yk b)).run P w = .ok () w := by
    unfold eqGuard
    cases op <;> rfl
  simp only [OpK, execOp, hx, hy]
  simp [hg, h, OpU, Result.andThen]; exact hk
/-- To the right, by j bits. -/
theorem o_shr {t t' : TypeId} {x y : Operand} {k yk : IntKind} {a b : Int} (j : Nat) (q : Int) (hx : ev ρ x = .int k a) (hy : ev ρ y = .int yk b) (hb : b = j) (hj : j ≤ k.bits) (hq : q = ((2 ^ j : Nat) : Int)) (hk : K (.int k (a / q)) w) :
    OpK P ⟨dst, .binOp .shr t x y t', ty, pos, aft, gd⟩ ρ w K := by
  subst hb; subst hq
  refine o_sh hx hy ?_ hk
  have h1 : ¬ ((j : Int) < 0) := by omega
  have h2 : min (j : Int).toNat k.bits = j := by simp; omega
  simp only [binOp, Op.shift, if_neg h1, h2]
  rw [Int.fdiv_eq_ediv_of_nonneg _ (by have : 0 < 2 ^ j := Nat.pow_pos (by decide); have h3 : ((2 : Int) ^ j) = ((2 ^ j : Nat) : Int) := by simp
                                       rw [h3]; omega)]
  simp
/-- To the left, by j bits, within the width. -/
theorem o_shl {t t' : TypeId} {x y : Operand} {k yk : IntKind} {a b : Int} (j : Nat) (q : Int) (hx : ev ρ x = .int k a) (hy : ev ρ y = .int yk b) (hb : b = j) (hj : j ≤ k.bits) (hq : q = ((2 ^ j : Nat) : Int)) (h0 : k.min ≤ a * q) (h1 : a * q ≤ k.max) (hk : K (.int k (a * q)) w) :
    OpK P ⟨dst, .binOp .shl t x y t', ty, pos, aft, gd⟩ ρ w K := by
  subst hb
  refine o_sh hx hy ?_ hk
  have h3 : ¬ ((j : Int) < 0) := by omega
  have h2 : min (j : Int).toNat k.bits = j := by simp; omega
  have h4 : ((2 : Int) ^ j) = q := by rw [hq]; simp
  simp only [binOp, Op.shift, if_neg h3, h2]
  rw [h4, wrap_in h0 h1]
  rfl
theorem o_convB {s t : TypeId} {x : Operand} {k' : IntKind} {a : Int} (hx : ev ρ x = .int k' a) (hs : ∃ d, P.underlying s = some d) (ht : P.underlying t = some (.int .u8)) (hk : K (.int .u8 (a % 256)) w) : OpK P ⟨dst, .convert s t x, ty, pos, aft, gd⟩ ρ w K :=
  o_conv hx hs ht (by rw [show IntKind.u8.wrap a = a % 256 by simp [IntKind.wrap, IntKind.bits, IntKind.signed]]; exact hk)
theorem o_add {t t' : TypeId} {x y : Operand} {k : IntKind} {a b : Int} (hx : ev ρ x = .int k a) (hy : ev ρ y = .int k b) (hk : K (.int k (k.wrap (a + b))) w) : OpK P ⟨dst, .binOp .add t x y t', ty, pos, aft, gd⟩ ρ w K :=
  o_int hx hy (by simp [binOp, Op.intArith]) hk
theorem o_notI {t : TypeId} {x : Operand} {a : Int} (hx : ev ρ x = .int .u32 a) (hk : K (.int .u32 (xorI .u32 4294967295 a)) w) : OpK P ⟨dst, .unOp .xor t x, ty, pos, aft, gd⟩ ρ w K := by
  simp only [OpK, execOp, hx]
  simp [Op.unary, OpU, Op.intBits, IntKind.signed, IntKind.max, IntKind.bits]; simpa [xorI, IntKind.bits] using hk
end ops
theorem xor32_range (a b : Int) : 0 ≤ xorI .u32 a b ∧ xorI .u32 a b ≤ 4294967295 := by
  simp only [xorI, IntKind.wrap, IntKind.bits, IntKind.signed]; simp; omega
theorem and15_range (a : Int) : 0 ≤ andI .u32 a 15 ∧ andI .u32 a 15 ≤ 15 := by
  have h : (BitVec.ofInt 32 a &&& BitVec.ofInt 32 15).toNat ≤ 15 := by
    rw [BitVec.toNat_and]
    exact Nat.le_trans Nat.and_le_right (by decide)
  have e : andI .u32 a 15 = (((BitVec.ofInt 32 a &&& BitVec.ofInt 32 15).toNat : Nat) : Int) % 4294967296 := by
    have e2 : ∀ y : Nat, IntKind.u32.wrap (y : Int) = (y : Int) % 4294967296 := by intro y; simp [IntKind.wrap, IntKind.bits, IntKind.signed]
    exact e2 _
  rw [e]; omega
end Go.Proofs.YtcmlklnelipacaaDoor

import Derived.Test.YtcmlklnelipacaaDoorProg
import Derived.Test.YtcmlklnelipacaaDoorLogE
import Derived.Test.YtcmlklnelipacaaDoorJpure
set_option linter.unusedVariables false
set_option linter.unusedSimpArgs false
set_option maxRecDepth 100000
namespace Go.Proofs.YtcmlklnelipacaaDoor
open Go.RowKit Plain
theorem mixed : Tryd.prog.follows .mixedOrders = true := by kernel_rfl
theorem bt57 : StructTy Tryd.prog 57 [.int .i64 (0), .int .i64 (0)] #[(0, 1), (1, 1)] := ⟨Tryd.zeroValue57, ⟨_, Tryd.underlying57, fun w => by simp [Tryd.sizeOf3]⟩⟩
theorem elt2 : Elt Tryd.prog 2 (.int .i64 (0)) 1 8 := elt_mk (by kernel_rfl) rfl (by decide)
theorem fa32_0 : FieldAt Tryd.prog 32 0 0 := fun a w => by
  simp [Instr.fieldAt, Instr.sureAddr, fieldPlace, Tryd.runUnderlying32, Tryd.sizeOf3]
theorem fa32_1 : FieldAt Tryd.prog 32 1 1 := fun a w => by
  simp [Instr.fieldAt, Instr.sureAddr, fieldPlace, Tryd.runUnderlying32, Tryd.sizeOf3]
theorem fa32_2 : FieldAt Tryd.prog 32 2 2 := fun a w => by
  simp [Instr.fieldAt, Instr.sureAddr, fieldPlace, Tryd.runUnderlying32, Tryd.sizeOf3]
theorem fa32_3 : FieldAt Tryd.prog 32 3 3 := fun a w => by
  simp [Instr.fieldAt, Instr.sureAddr, fieldPlace, Tryd.runUnderlying32, Tryd.sizeOf30]
theorem fa57_0 : FieldAt Tryd.prog 57 0 0 := fun a w => by
  simp [Instr.fieldAt, Instr.sureAddr, fieldPlace, Tryd.runUnderlying57, Tryd.sizeOf3]
theorem fa57_1 : FieldAt Tryd.prog 57 1 1 := fun a w => by
  simp [Instr.fieldAt, Instr.sureAddr, fieldPlace, Tryd.runUnderlying57, Tryd.sizeOf3]
theorem tyA32 : TyA Tryd.prog 32 4 := ⟨Tryd.isAgg32, Tryd.sizeOf32⟩
theorem tyA57 : TyA Tryd.prog 57 2 := ⟨Tryd.isAgg57, Tryd.sizeOf57⟩
theorem tyS2 : TyS Tryd.prog 2 := ⟨Tryd.isAgg2, Tryd.sizeOf2⟩
theorem tyS3 : TyS Tryd.prog 3 := ⟨Tryd.isAgg3, Tryd.sizeOf3⟩
theorem tyS30 : TyS Tryd.prog 30 := ⟨Tryd.isAgg30, Tryd.sizeOf30⟩

theorem bnd_in (x : Int) : -1099511627776 ≤ bnd x ∧ bnd x ≤ 1099511627776 := by unfold bnd; omega
def encI (x : Int) : List Value := [.int .i64 x]
def encP (p : Permit) : List Value := [.int .i64 p.car, .int .i64 p.peak]
def psum (ps : List Permit) : Int := ssum (ps.map (·.peak))
theorem take_snoc {α : Type} {l : List α} {i : Nat} {x : α} (h : l[i]? = some x) : l.take (i + 1) = l.take i ++ [x] := by
  obtain ⟨hlt, rfl⟩ := List.getElem?_eq_some_iff.1 h
  exact List.take_succ_eq_append_getElem hlt
theorem flat_snoc {α β : Type} {l : List α} {i : Nat} {x : α} {f : α → List β} (h : l[i]? = some x) : (l.take (i + 1)).flatMap f = (l.take i).flatMap f ++ f x := by
  rw [take_snoc h]; simp
theorem ssum_snoc {xs : List Int} {i : Nat} {x : Int} (h : xs[i]? = some x) : ssum (xs.take (i + 1)) = sadd (ssum (xs.take i)) x := by
  rw [take_snoc h]; simp [ssum]
/-- What the call owns reads, its elements told by a list. -/
theorem Rd.of_own1 {α β : Type} {w : World} {base : Nat} {e : TypeId} {k n c : Nat} {ao : Option Addr} {xs : List α} {ys : List β} {f : α → List Value} {g : β → List Value} {h : β → α} (ho : w.ownsRow base e k (.slice ao n c) n (ys.flatMap g)) (hxs : xs = ys.map h) (hg : ∀ y, g y = f (h y)) (hk : ∀ x, (f x).length = k) (hn : n = xs.length) : Rd (fun b => base ≤ b) w k (.slice ao n c) (xs.map f) := by
  subst hxs
  have e1 : ys.flatMap g = ((ys.map h).map f).flatten := by
    rw [List.map_map, List.flatMap_def]
    congr 1
    exact List.map_congr_left (fun y _ => hg y)
  have := Rd.of_own (w := w) (base := base) (e := e) (k := k) (v := .slice ao n c) (css := (ys.map h).map f) (by rw [← e1]; simpa [hn] using ho) (by intro cs hcs; obtain ⟨x, _, rfl⟩ := List.mem_map.1 hcs; exact hk x)
  exact this

def idxOf {α : Type} (p : α → Bool) (l : List α) : Int := match l.findIdx? p with | some i => i | none => -1
theorem idxOf_hit {α : Type} {p : α → Bool} {l : List α} {i : Nat} {x : α} (h : (l.take i).all (fun x => !p x) = true) (hx : l[i]? = some x) (hp : p x = true) : idxOf p l = i := by
  have : l.findIdx? p = some i := by
    obtain ⟨hlt, rfl⟩ := List.getElem?_eq_some_iff.1 hx
    rw [List.findIdx?_eq_some_iff_getElem]
    refine ⟨hlt, hp, fun j hj => ?_⟩
    have := List.all_eq_true.1 h (l[j]'(by omega)) (by rw [List.mem_take_iff_getElem]; exact ⟨j, by omega, rfl⟩)
    simpa using this
  unfold idxOf; rw [this]
theorem idxOf_miss {α : Type} {p : α → Bool} {l : List α} (h : l.all (fun x => !p x) = true) : idxOf p l = -1 := by
  have : l.findIdx? p = none := by
    rw [List.findIdx?_eq_none_iff]
    intro x hx
    have := List.all_eq_true.1 h x hx
    simpa using this
  unfold idxOf; rw [this]
theorem idxOf_any {α : Type} (p : α → Bool) (l : List α) : l.any p = decide (0 ≤ idxOf p l) := by
  unfold idxOf
  cases h : l.findIdx? p with
  | none =>
    rw [List.findIdx?_eq_none_iff] at h
    simp only [show decide ((0 : Int) ≤ -1) = false from rfl]
    rw [List.any_eq_false]; intro x hx; simp [h x hx]
  | some i =>
    rw [List.findIdx?_eq_some_iff_getElem] at h
    obtain ⟨hl, hp, _⟩ := h
    simp only [show decide ((0 : Int) ≤ (i : Int)) = true by simp]
    rw [List.any_eq_true]; exact ⟨_, List.getElem_mem hl, hp⟩
theorem ok_step {ps : List Permit} {i : Nat} {x : Permit} (hx : ps[i]? = some x) : okPermits (ps.take i) (ps.drop i) = (!(decide (0 ≤ idxOf (fun q : Permit => decide (q.car = x.car)) (ps.take i))) && known x.car && power x.peak && okPermits (ps.take (i + 1)) (ps.drop (i + 1))) := by
  obtain ⟨hlt, hx'⟩ := List.getElem?_eq_some_iff.1 hx
  rw [List.drop_eq_getElem_cons hlt, hx', okPermits, take_snoc hx, ← idxOf_any]
  rfl
theorem check_of {b m c : Int} {ps : List Permit} (h : okPermits [] ps = true) : check ⟨b, m, c, ps⟩ = (power b && (power m && (power c && decide (psum ps ≤ b)))) := by
  unfold check; rw [h]; rfl
theorem check_not {b m c : Int} {ps : List Permit} (h : okPermits [] ps = false) : check ⟨b, m, c, ps⟩ = false := by
  unfold check; rw [h]; rfl
theorem ok_end {ps : List Permit} {i : Nat} (h : okPermits (ps.take i) (ps.drop i) = okPermits [] ps) (hi : ps.length ≤ i) : okPermits [] ps = true := by
  rw [← h, List.drop_of_length_le hi]; rfl
def oneOf (p : Permit → Bool) (ps : List Permit) : Permit := match ps.find? p with | some x => x | none => ⟨0, 0⟩
theorem idxOf_get {α : Type} {p : α → Bool} {l : List α} (h : ¬ idxOf p l < 0) : ∃ x, l[(idxOf p l).toNat]? = some x ∧ l.find? p = some x ∧ (idxOf p l).toNat < l.length ∧ 0 ≤ idxOf p l := by
  unfold idxOf at *
  cases hf : l.findIdx? p with
  | none => rw [hf] at h; exact absurd (by decide) h
  | some i =>
    have h2 := hf
    rw [List.findIdx?_eq_some_iff_getElem] at hf
    obtain ⟨hl, hp, hall⟩ := hf
    refine ⟨l[i], by simp [hl], ?_, by simpa using hl, by simp⟩
    rw [List.find?_eq_some_iff_getElem]
    exact ⟨hp, i, hl, rfl, fun j hj => by simpa using hall j hj⟩
theorem idxOf_none {α : Type} {p : α → Bool} {l : List α} (h : idxOf p l < 0) : l.find? p = none := by
  unfold idxOf at h
  cases hf : l.findIdx? p with
  | none => rw [List.findIdx?_eq_none_iff] at hf; rw [List.find?_eq_none]; intro x hx; simp [hf x hx]
  | some i => rw [hf] at h; simp only [] at h; omega

theorem nodup_le : ∀ (n : Nat) (l : List Int), l.Nodup → (∀ x ∈ l, 0 ≤ x ∧ x < n) → l.length ≤ n
  | 0, l, _, h => by
    cases l with
    | nil => simp
    | cons x l => have := h x (by simp); omega
  | n + 1, l, hn, h => by
    have ih := nodup_le n (l.erase (n : Int)) (hn.erase _) (fun x hx => by
      have h1 := (hn.mem_erase_iff).1 hx
      have h2 := h x h1.2
      have h3 := h1.1
      omega)
    rw [List.length_erase] at ih
    split at ih <;> omega
theorem ok_append : ∀ (a pre b : List Permit), okPermits pre (a ++ b) = (okPermits pre a && okPermits (pre ++ a) b)
  | [], pre, b => by simp [okPermits]
  | p :: a, pre, b => by
    simp only [List.cons_append, okPermits, ok_append a (pre ++ [p]) b]
    simp [Bool.and_assoc, List.append_assoc]
theorem ok_nodup : ∀ (l pre : List Permit), okPermits pre l = true → (l.map (·.car)).Nodup ∧ (∀ p ∈ l, ∀ q ∈ pre, q.car ≠ p.car) ∧ ∀ p ∈ l, 0 ≤ p.car ∧ p.car < 64
  | [], _, _ => by simp
  | p :: l, pre, h => by
    simp only [okPermits, Bool.and_eq_true, Bool.not_eq_true', List.any_eq_false] at h
    obtain ⟨⟨⟨h1, h2⟩, _⟩, h4⟩ := h
    obtain ⟨g1, g2, g3⟩ := ok_nodup l (pre ++ [p]) h4
    have hk := known_iff.1 h2
    refine ⟨?_, fun q hq r hr => ?_, fun q hq => ?_⟩
    · rw [List.map_cons, List.nodup_cons]
      refine ⟨fun hm => ?_, g1⟩
      obtain ⟨q, hq, e⟩ := List.mem_map.1 hm
      exact g2 q hq p (by simp) e.symm
    · rcases List.mem_cons.1 hq with rfl | hq
      · simpa using h1 r hr
      · exact g2 q hq r (by simp [hr])
    · rcases List.mem_cons.1 hq with rfl | hq
      · exact hk
      · exact g3 q hq
theorem ok_len64 {l : List Permit} (h : okPermits [] l = true) : l.length ≤ 64 := by
  obtain ⟨h1, _, h3⟩ := ok_nodup l [] h
  have := nodup_le 64 (l.map (·.car)) h1 (fun x hx => by
    obtain ⟨p, hp, rfl⟩ := List.mem_map.1 hx
    exact h3 p hp)
  simpa using this
theorem ok_take {ps : List Permit} {i : Nat} {x : Permit} (hx : ps[i]? = some x) (h : okPermits [] (ps.take i) = true) (h1 : ¬ 0 ≤ idxOf (fun q : Permit => decide (q.car = x.car)) (ps.take i)) (h2 : (!known x.car) = false) (h3 : (!power x.peak) = false) : okPermits [] (ps.take (i + 1)) = true := by
  rw [take_snoc hx, ok_append, h]
  have e : ([] ++ ps.take i).any (fun q => q.car == x.car) = false := by
    have := idxOf_any (fun q : Permit => decide (q.car = x.car)) (ps.take i)
    rw [decide_eq_false h1] at this
    simpa using this
  have h2 : known x.car = true := by simpa using h2
  have h3 : power x.peak = true := by simpa using h3
  simp only [okPermits, Bool.true_and, e, h2, h3, Bool.not_false, Bool.and_self]
theorem bound_ok (x : Int) (w : World)  :
    Calls Tryd.prog 50 #[.int .i64 (x)] w (Ret Non w fun v w' => v = .tuple #[.int .i64 (bnd x), .bool (decide (x ≠ bnd x))]) := by
  have hK := Kp.refl Non w
  refine calls_cw Tryd.func50 rfl (Nat.le_of_ble_eq_true rfl) ?_
  refine cw_reg rfl ?_
  refine rl (o_assign (v := .int .i64 (0)) rfl ?_) rfl
  refine rl (o_assign (v := .bool (false)) rfl ?_) rfl
  refine rl_nil ?_
  refine cw_reg rfl ?_
  refine rl (o_move (v := .int .i64 (x)) rfl ?_) rfl
  refine rl (o_min rfl rfl ?_) rfl
  refine rl (o_max rfl rfl ?_) rfl
  refine rl (o_assign (v := .int .i64 (max (min x 1099511627776) (-1099511627776))) rfl ?_) rfl
  refine rl_nil ?_
  refine cw_reg rfl ?_
  refine rl (o_move (v := .int .i64 (max (min x 1099511627776) (-1099511627776))) rfl ?_) rfl
  refine rl (o_move (v := .int .i64 (x)) rfl ?_) rfl
  refine rl (o_move (v := .int .i64 (max (min x 1099511627776) (-1099511627776))) rfl ?_) rfl
  refine rl (o_neq rfl rfl ?_) rfl
  refine rl (o_assign (v := .int .i64 (max (min x 1099511627776) (-1099511627776))) rfl ?_) rfl
  refine rl (o_assign (v := .bool (decide (x ≠ max (min x 1099511627776) (-1099511627776)))) rfl ?_) rfl
  refine rl_nil ?_
  refine cw_ret ?_
  refine ret_intro (v := .tuple #[.int .i64 (max (min x 1099511627776) (-1099511627776)), .bool (decide (x ≠ max (min x 1099511627776) (-1099511627776)))]) (res_ok (vs := [.int .i64 (max (min x 1099511627776) (-1099511627776)), .bool (decide (x ≠ max (min x 1099511627776) (-1099511627776)))]) rfl ⟨rfl, rfl, trivial⟩) hK ?_
  exact rfl

theorem addlit_ok (a b : Int) (h0 : -9223372036854775808 ≤ a + b) (h1 : a + b ≤ 9223372036854775807) (w : World)  :
    Calls Tryd.prog 48 #[.int .i64 (a), .int .i64 (b)] w (Ret Non w fun v w' => v = .int .i64 (a + b)) := by
  have hK := Kp.refl Non w
  refine calls_cw Tryd.func48 rfl (Nat.le_of_ble_eq_true rfl) ?_
  refine cw_reg rfl ?_
  refine rl (o_assign (v := .int .i64 (0)) rfl ?_) rfl
  refine rl_nil ?_
  refine cw_reg rfl ?_
  refine rl (o_move (v := .int .i64 (a)) rfl ?_) rfl
  refine rl (o_move (v := .int .i64 (b)) rfl ?_) rfl
  refine rl (o_add64 (a := a) (b := b) rfl rfl (by omega) (by omega) ?_) rfl
  refine rl (o_assign (v := .int .i64 (a + b)) rfl ?_) rfl
  refine rl_nil ?_
  refine cw_ret ?_
  refine ret_intro (v := .int .i64 (a + b)) (res_ok (vs := [.int .i64 (a + b)]) rfl ⟨rfl, trivial⟩) hK ?_
  exact rfl

theorem both_ok (a b : Int) (w : World)  :
    Calls Tryd.prog 47 #[.int .i64 (a), .int .i64 (b), .func (.func 48) #[] #[]] w (Ret Non w fun v w' => ∃ q, v = .tuple #[.int .i64 (sadd a b), .bool q]) := by
  have hK := Kp.refl Non w
  have ha := bnd_in a
  have hb := bnd_in b
  refine calls_cw Tryd.func47 rfl (Nat.le_of_ble_eq_true rfl) ?_
  refine cw_reg rfl ?_
  refine rl (o_assign (v := .int .i64 (0)) rfl ?_) rfl
  refine rl (o_assign (v := .bool (false)) rfl ?_) rfl
  refine rl_nil ?_
  refine cw_reg rfl ?_
  refine rl (o_move (v := .int .i64 (a)) rfl ?_) rfl
  refine rl (o_call (bound_ok a _) Tryd.call50 (fun v1 w2 hk3 hv4 => ?_)) rfl
  have hs_w2 := hK.size
  obtain rfl := hv4
  replace hK := hK.trans (Kp.ext hk3)
  refine rl (o_move (v := .tuple #[.int .i64 (bnd a), .bool (decide (a ≠ bnd a))]) rfl ?_) rfl
  refine rl (o_extract (vs := [.int .i64 (bnd a), .bool (decide (a ≠ bnd a))]) (v := .int .i64 (bnd a)) rfl rfl ?_) rfl
  refine rl (o_extract (vs := [.int .i64 (bnd a), .bool (decide (a ≠ bnd a))]) (v := .bool (decide (a ≠ bnd a))) rfl rfl ?_) rfl
  refine rl (o_assign (v := .int .i64 (bnd a)) rfl ?_) rfl
  refine rl (o_assign (v := .bool (decide (a ≠ bnd a))) rfl ?_) rfl
  refine rl_nil ?_
  refine cw_reg rfl ?_
  refine rl (o_move (v := .int .i64 (b)) rfl ?_) rfl
  refine rl (o_call (bound_ok b _) Tryd.call50 (fun v5 w6 hk7 hv8 => ?_)) rfl
  have hs_w6 := hK.size
  obtain rfl := hv8
  replace hK := hK.trans (Kp.ext hk7)
  refine rl (o_move (v := .tuple #[.int .i64 (bnd b), .bool (decide (b ≠ bnd b))]) rfl ?_) rfl
  refine rl (o_extract (vs := [.int .i64 (bnd b), .bool (decide (b ≠ bnd b))]) (v := .int .i64 (bnd b)) rfl rfl ?_) rfl
  refine rl (o_extract (vs := [.int .i64 (bnd b), .bool (decide (b ≠ bnd b))]) (v := .bool (decide (b ≠ bnd b))) rfl rfl ?_) rfl
  refine rl (o_assign (v := .int .i64 (bnd b)) rfl ?_) rfl
  refine rl (o_assign (v := .bool (decide (b ≠ bnd b))) rfl ?_) rfl
  refine rl_nil ?_
  refine cw_reg rfl ?_
  refine rl (o_move (v := .func (.func 48) #[] #[]) rfl ?_) rfl
  refine rl (o_move (v := .int .i64 (bnd a)) rfl ?_) rfl
  refine rl (o_move (v := .int .i64 (bnd b)) rfl ?_) rfl
  refine rl (o_callDyn (caps := []) rfl (addlit_ok (bnd a) (bnd b) (by omega) (by omega) _) Tryd.call48 (fun v9 w10 hk11 hv12 => ?_)) rfl
  have hs_w10 := hK.size
  obtain rfl := hv12
  replace hK := hK.trans (Kp.ext hk11)
  refine rl (o_call (bound_ok (bnd a + bnd b) _) Tryd.call50 (fun v13 w14 hk15 hv16 => ?_)) rfl
  have hs_w14 := hK.size
  obtain rfl := hv16
  replace hK := hK.trans (Kp.ext hk15)
  refine rl (o_move (v := .tuple #[.int .i64 (bnd (bnd a + bnd b)), .bool (decide (bnd a + bnd b ≠ bnd (bnd a + bnd b)))]) rfl ?_) rfl
  refine rl (o_extract (vs := [.int .i64 (bnd (bnd a + bnd b)), .bool (decide (bnd a + bnd b ≠ bnd (bnd a + bnd b)))]) (v := .int .i64 (bnd (bnd a + bnd b))) rfl rfl ?_) rfl
  refine rl (o_extract (vs := [.int .i64 (bnd (bnd a + bnd b)), .bool (decide (bnd a + bnd b ≠ bnd (bnd a + bnd b)))]) (v := .bool (decide (bnd a + bnd b ≠ bnd (bnd a + bnd b)))) rfl rfl ?_) rfl
  refine rl (o_assign (v := .int .i64 (bnd (bnd a + bnd b))) rfl ?_) rfl
  refine rl (o_assign (v := .bool (decide (bnd a + bnd b ≠ bnd (bnd a + bnd b)))) rfl ?_) rfl
  refine rl_nil ?_
  refine cw_reg rfl ?_
  refine rl (o_move (v := .int .i64 (bnd (bnd a + bnd b))) rfl ?_) rfl
  refine rl (o_move (v := .bool (decide (a ≠ bnd a))) rfl ?_) rfl
  refine rl (o_move (v := .bool (decide (a ≠ bnd a))) rfl ?_) rfl
  by_cases h17 : a ≠ bnd a
  · skip
    refine rlo ?_ (want_f rfl (decide_eq_true h17) (by decide))
    refine rl (o_pickT (v := .bool (true)) rfl (decide_eq_true h17) rfl ?_) rfl
    refine rl (o_move (v := .bool (true)) rfl ?_) rfl
    refine rlo ?_ (want_f rfl (rfl) (by decide))
    refine rl (o_pickT (v := .bool (true)) rfl (rfl) rfl ?_) rfl
    refine rl (o_assign (v := .int .i64 (bnd (bnd a + bnd b))) rfl ?_) rfl
    refine rl (o_assign (v := .bool (true)) rfl ?_) rfl
    refine rl_nil ?_
    refine cw_ret ?_
    refine ret_intro (v := .tuple #[.int .i64 (bnd (bnd a + bnd b)), .bool (true)]) (res_ok (vs := [.int .i64 (bnd (bnd a + bnd b)), .bool (true)]) rfl ⟨rfl, rfl, trivial⟩) hK ?_
    exact ⟨_, rfl⟩
  · skip
    refine rl (o_move (v := .bool (decide (b ≠ bnd b))) rfl ?_) (want_t rfl (decide_eq_false h17))
    refine rl (o_pickF (v := .bool (decide (b ≠ bnd b))) rfl (decide_eq_false h17) rfl ?_) rfl
    refine rl (o_move (v := .bool (decide (b ≠ bnd b))) rfl ?_) rfl
    by_cases h18 : b ≠ bnd b
    · skip
      refine rlo ?_ (want_f rfl (decide_eq_true h18) (by decide))
      refine rl (o_pickT (v := .bool (true)) rfl (decide_eq_true h18) rfl ?_) rfl
      refine rl (o_assign (v := .int .i64 (bnd (bnd a + bnd b))) rfl ?_) rfl
      refine rl (o_assign (v := .bool (true)) rfl ?_) rfl
      refine rl_nil ?_
      refine cw_ret ?_
      refine ret_intro (v := .tuple #[.int .i64 (bnd (bnd a + bnd b)), .bool (true)]) (res_ok (vs := [.int .i64 (bnd (bnd a + bnd b)), .bool (true)]) rfl ⟨rfl, rfl, trivial⟩) hK ?_
      exact ⟨_, rfl⟩
    · skip
      refine rl (o_move (v := .bool (decide (bnd a + bnd b ≠ bnd (bnd a + bnd b)))) rfl ?_) (want_t rfl (decide_eq_false h18))
      refine rl (o_pickF (v := .bool (decide (bnd a + bnd b ≠ bnd (bnd a + bnd b)))) rfl (decide_eq_false h18) rfl ?_) rfl
      refine rl (o_assign (v := .int .i64 (bnd (bnd a + bnd b))) rfl ?_) rfl
      refine rl (o_assign (v := .bool (decide (bnd a + bnd b ≠ bnd (bnd a + bnd b)))) rfl ?_) rfl
      refine rl_nil ?_
      refine cw_ret ?_
      refine ret_intro (v := .tuple #[.int .i64 (bnd (bnd a + bnd b)), .bool (decide (bnd a + bnd b ≠ bnd (bnd a + bnd b)))]) (res_ok (vs := [.int .i64 (bnd (bnd a + bnd b)), .bool (decide (bnd a + bnd b ≠ bnd (bnd a + bnd b)))]) rfl ⟨rfl, rfl, trivial⟩) hK ?_
      exact ⟨_, rfl⟩

theorem add_ok (a b : Int) (w : World)  :
    Calls Tryd.prog 42 #[.int .i64 (a), .int .i64 (b)] w (Ret Non w fun v w' => ∃ q, v = .tuple #[.int .i64 (sadd a b), .bool q]) := by
  have hK := Kp.refl Non w
  refine calls_cw Tryd.func42 rfl (Nat.le_of_ble_eq_true rfl) ?_
  refine cw_reg rfl ?_
  refine rl (o_assign (v := .int .i64 (0)) rfl ?_) rfl
  refine rl (o_assign (v := .bool (false)) rfl ?_) rfl
  refine rl_nil ?_
  refine cw_reg rfl ?_
  refine rl (o_move (v := .int .i64 (a)) rfl ?_) rfl
  refine rl (o_move (v := .int .i64 (b)) rfl ?_) rfl
  refine rl (o_call (both_ok a b _) Tryd.call47 (fun v1 w2 hk3 hv4 => ?_)) rfl
  have hs_w2 := hK.size
  obtain ⟨q, rfl⟩ := hv4
  replace hK := hK.trans (Kp.ext hk3)
  refine rl (o_extract (vs := [.int .i64 (sadd a b), .bool (q)]) (v := .int .i64 (sadd a b)) rfl rfl ?_) rfl
  refine rl (o_extract (vs := [.int .i64 (sadd a b), .bool (q)]) (v := .bool (q)) rfl rfl ?_) rfl
  refine rl (o_assign (v := .int .i64 (sadd a b)) rfl ?_) rfl
  refine rl (o_assign (v := .bool (q)) rfl ?_) rfl
  refine rl_nil ?_
  refine cw_ret ?_
  refine ret_intro (v := .tuple #[.int .i64 (sadd a b), .bool (q)]) (res_ok (vs := [.int .i64 (sadd a b), .bool (q)]) rfl ⟨rfl, rfl, trivial⟩) hK ?_
  exact ⟨_, rfl⟩

theorem ssum_ok {F : Nat → Prop} (ao : Option Addr) (cp : Nat) (xs : List Int) (n : Nat) (w : World) (hl_n : n = xs.length) (hn : n ≤ 1000000000000) (hR : Rd F w 1 (.slice ao n cp) (xs.map encI)) :
    Calls Tryd.prog 33 #[.slice ao n cp] w (Ret Non w fun v w' => ∃ q, v = .tuple #[.int .i64 (ssum xs), .bool q]) := by
  have hK := Kp.refl Non w
  subst hl_n
  replace hR := hR.old
  refine calls_cw Tryd.func33 rfl (Nat.le_of_ble_eq_true rfl) ?_
  refine cw_reg rfl ?_
  refine rl (o_assign (v := .int .i64 (0)) rfl ?_) rfl
  refine rl (o_assign (v := .bool (false)) rfl ?_) rfl
  refine rl_nil ?_
  refine cw_reg rfl ?_
  refine rl (o_assign (v := .int .i64 (0)) rfl ?_) rfl
  refine rl (o_assign (v := .bool (false)) rfl ?_) rfl
  refine rl_nil ?_
  refine cw_seq ?_
  refine cw_reg rfl ?_
  refine rl (o_move (v := .slice ao xs.length cp) rfl ?_) rfl
  refine rl (o_len rfl Tryd.underlying74 ?_) rfl
  refine rl (o_move (v := .int .i64 (0)) rfl ?_) rfl
  refine rl_nil ?_
  refine cw_block ?_
  refine cw_loop (fun mm ρ' w' => ∃ (ρ0 : Env) (i : Nat) (met : Bool), (ρ' = upds ρ0 [(4, .int .i64 (ssum (xs.take i))), (5, .bool (met)), (10, .slice ao xs.length cp), (11, .int .i64 (((xs.length : Nat) : Int))), (12, .int .i64 ((i : Int)))]) ∧ (mm = xs.length - i) ∧ (i ≤ xs.length) ∧ (Kp Non w w') ∧ (Rd (fun b => b < w.heap.size) w' 1 (.slice ao xs.length cp) (xs.map encI))) (xs.length - (0)) ?_ ?_
  · skip
    exact ⟨_, 0, false, upds_eq _ _ ⟨rfl, rfl, rfl, rfl, rfl, trivial⟩, rfl, Nat.zero_le _, hK, hR⟩
  · rintro mm ρ1 w1 ⟨ρ0, i, met, rfl, rfl, hi, hK, hR⟩
    refine cw_reg rfl ?_
    refine rl (o_lss rfl rfl ?_) rfl
    refine rl_nil ?_
    refine cw_seq ?_
    refine cw_if rfl (fun h2 => ?_) (fun h2 => ?_)
    · skip
      refine cw_skip ?_
      refine k_tn ?_
      refine cw_seq ?_
      refine cw_block ?_
      refine cw_reg rfl ?_
      refine rl (o_idxM (i := (i : Int)) (f := encI) (xs := xs) rfl rfl Tryd.underlying74 Tryd.sizeOf2 hR (by omega) (by omega) (fun b3 o4 x5 hx6 hF7 hA8 => ?_)) rfl
      have hxe : xs[i]? = some x5 := by simpa using hx6
      refine rl (o_load (v := .int .i64 (x5)) rfl tyS2 (hA8 0 _ rfl) ?_) rfl
      refine rl (o_assign (v := .int .i64 (x5)) rfl ?_) rfl
      refine rl_nil ?_
      refine cw_reg rfl ?_
      refine rl (o_move (v := .int .i64 (ssum (xs.take i))) rfl ?_) rfl
      refine rl (o_move (v := .int .i64 (x5)) rfl ?_) rfl
      refine rl (o_call (add_ok (ssum (xs.take i)) x5 _) Tryd.call42 (fun v9 w10 hk11 hv12 => ?_)) rfl
      have hs_w10 := hK.size
      obtain ⟨q, rfl⟩ := hv12
      replace hK := hK.trans (Kp.ext hk11)
      replace hR := hR.ext hk11
      replace hA8 := At.ext hA8 hk11
      refine rl (o_move (v := .tuple #[.int .i64 (sadd (ssum (xs.take i)) x5), .bool (q)]) rfl ?_) rfl
      refine rl (o_extract (vs := [.int .i64 (sadd (ssum (xs.take i)) x5), .bool (q)]) (v := .int .i64 (sadd (ssum (xs.take i)) x5)) rfl rfl ?_) rfl
      refine rl (o_extract (vs := [.int .i64 (sadd (ssum (xs.take i)) x5), .bool (q)]) (v := .bool (q)) rfl rfl ?_) rfl
      refine rl (o_assign (v := .int .i64 (sadd (ssum (xs.take i)) x5)) rfl ?_) rfl
      refine rl (o_assign (v := .bool (q)) rfl ?_) rfl
      refine rl_nil ?_
      refine cw_reg rfl ?_
      refine rl (o_move (v := .int .i64 (sadd (ssum (xs.take i)) x5)) rfl ?_) rfl
      refine rl (o_assign (v := .int .i64 (sadd (ssum (xs.take i)) x5)) rfl ?_) rfl
      refine rl_nil ?_
      refine cw_region rfl ?_
      refine rl (o_move (v := .bool (met)) rfl ?_) rfl
      refine rl (o_move (v := .bool (met)) rfl ?_) rfl
      rcases Bool.eq_false_or_eq_true met with h13 | h13
      · skip
        refine rlo ?_ (want_f rfl (h13) (by decide))
        refine rl (o_pickT (v := .bool (true)) rfl (h13) rfl ?_) rfl
        refine rl (o_assign (v := .bool (true)) rfl ?_) rfl
        refine rl_nil ?_
        refine k_bn ?_
        refine k_tn ?_
        refine cw_region rfl ?_
        refine rl (o_add64 (a := (i : Int)) (b := 1) rfl rfl (by omega) (by omega) ?_) rfl
        refine rl (o_move (v := .int .i64 ((i : Int) + 1)) rfl ?_) rfl
        refine rl_nil ?_
        refine k_tn ?_
        refine ⟨_, ?_, _, i + 1, _, upds_eq _ _ ⟨(show (.int .i64 (sadd (ssum (xs.take i)) x5) : Value) = .int .i64 (ssum (xs.take (i + 1))) from by rw [ssum_snoc hxe]), rfl, rfl, rfl, rfl, trivial⟩, rfl, by omega, hK, hR⟩
        omega
      · skip
        refine rl (o_move (v := .bool (q)) rfl ?_) (want_t rfl (h13))
        refine rl (o_pickF (v := .bool (q)) rfl (h13) rfl ?_) rfl
        refine rl (o_assign (v := .bool (q)) rfl ?_) rfl
        refine rl_nil ?_
        refine k_bn ?_
        refine k_tn ?_
        refine cw_region rfl ?_
        refine rl (o_add64 (a := (i : Int)) (b := 1) rfl rfl (by omega) (by omega) ?_) rfl
        refine rl (o_move (v := .int .i64 ((i : Int) + 1)) rfl ?_) rfl
        refine rl_nil ?_
        refine k_tn ?_
        refine ⟨_, ?_, _, i + 1, _, upds_eq _ _ ⟨(show (.int .i64 (sadd (ssum (xs.take i)) x5) : Value) = .int .i64 (ssum (xs.take (i + 1))) from by rw [ssum_snoc hxe]), rfl, rfl, rfl, rfl, trivial⟩, rfl, by omega, hK, hR⟩
        omega
    · skip
      refine cw_exit ?_
      refine k_te ?_
      refine k_te ?_
      refine k_bh ?_
      refine k_tn ?_
      refine cw_reg rfl ?_
      refine rl (o_move (v := .int .i64 (ssum (xs.take i))) rfl ?_) rfl
      refine rl (o_move (v := .bool (met)) rfl ?_) rfl
      refine rl (o_assign (v := .int .i64 (ssum (xs.take i))) rfl ?_) rfl
      refine rl (o_assign (v := .bool (met)) rfl ?_) rfl
      refine rl_nil ?_
      refine cw_ret ?_
      refine ret_intro (v := .tuple #[.int .i64 (ssum (xs.take i)), .bool (met)]) (res_ok (vs := [.int .i64 (ssum (xs.take i)), .bool (met)]) rfl ⟨rfl, rfl, trivial⟩) hK ?_
      exact ⟨_, by rw [show i = xs.length by omega, List.take_length]⟩

theorem lsum_ok {F : Nat → Prop} (b m c : Int) (ao : Option Addr) (cp : Nat) (ps : List Permit) (n : Nat) (w : World) (hl_n : n = ps.length) (hn : n ≤ 1000000) (hR : Rd F w 2 (.slice ao n cp) (ps.map encP)) :
    Calls Tryd.prog 20 #[.agg #[.int .i64 (b), .int .i64 (m), .int .i64 (c), .slice ao n cp]] w (Ret Non w fun v w' => v = .int .i64 (psum ps)) := by
  have hK := Kp.refl Non w
  subst hl_n
  replace hR := hR.old
  refine calls_cw Tryd.func20 rfl (Nat.le_of_ble_eq_true rfl) ?_
  refine cw_reg rfl ?_
  refine rl (o_box (v := .agg #[.int .i64 (b), .int .i64 (m), .int .i64 (c), .slice ao ps.length cp]) rfl (fun b1 w2 hb3 hz4 hk5 hB6 => ?_)) rfl
  replace hB6 : Box w2 b1 [.int .i64 (b), .int .i64 (m), .int .i64 (c), .slice ao ps.length cp] 32 := hB6
  have hs_b1 := hK.size
  replace hK := hK.trans (Kp.ext hk5)
  replace hR := hR.ext hk5
  refine rl (o_assign (v := .int .i64 (0)) rfl ?_) rfl
  refine rl_nil ?_
  refine cw_reg rfl ?_
  refine rl (o_assign (v := .slice none 0 0) rfl ?_) rfl
  refine rl_nil ?_
  refine cw_seq ?_
  refine cw_reg rfl ?_
  refine rl (o_field rfl fa32_3 ?_) rfl
  refine rl (o_loadB (v := .slice ao ps.length cp) rfl hB6 tyS30 rfl ?_) rfl
  refine rl (o_len rfl Tryd.underlying30 ?_) rfl
  refine rl (o_move (v := .int .i64 (0)) rfl ?_) rfl
  refine rl_nil ?_
  refine cw_block ?_
  refine cw_loop (fun mm ρ' w' => ∃ (ρ0 : Env) (i : Nat) (ao2 : Option Addr) (c2 : Nat), (ρ' = upds ρ0 [(3, .slice ao2 i c2), (9, .slice ao ps.length cp), (10, .int .i64 (((ps.length : Nat) : Int))), (11, .int .i64 ((i : Int)))]) ∧ (mm = ps.length - i) ∧ (i ≤ ps.length) ∧ (Kp Non w w') ∧ (Box w' b1 [.int .i64 (b), .int .i64 (m), .int .i64 (c), .slice ao ps.length cp] 32) ∧ (Rd (fun b => b < w.heap.size) w' 2 (.slice ao ps.length cp) (ps.map encP)) ∧ (w'.ownsRow w.heap.size 2 1 (.slice ao2 i c2) i ((ps.take i).flatMap fun p => encI p.peak))) (ps.length - (0)) ?_ ?_
  · skip
    exact ⟨_, 0, none, 0, upds_eq _ _ ⟨rfl, rfl, rfl, rfl, trivial⟩, rfl, Nat.zero_le _, hK, hB6, hR, own_nil _ _ _ _⟩
  · rintro mm ρ1 w7 ⟨ρ0, i, ao2, c2, rfl, rfl, hi, hK, hB6, hR, hO⟩
    refine cw_reg rfl ?_
    refine rl (o_lss rfl rfl ?_) rfl
    refine rl_nil ?_
    refine cw_seq ?_
    refine cw_if rfl (fun h8 => ?_) (fun h8 => ?_)
    · skip
      refine cw_skip ?_
      refine k_tn ?_
      refine cw_seq ?_
      refine cw_block ?_
      refine cw_reg rfl ?_
      refine rl (o_idxM (i := (i : Int)) (f := encP) (xs := ps) rfl rfl Tryd.underlying30 Tryd.sizeOf57 hR (by omega) (by omega) (fun b9 o10 x11 hx12 hF13 hA14 => ?_)) rfl
      have hxe : ps[i]? = some x11 := by simpa using hx12
      refine rl (o_loadA (cs := [.int .i64 (x11.car), .int .i64 (x11.peak)]) rfl tyA57 rfl hA14 ?_) rfl
      refine rl (o_alloc Tryd.zeroValue57 (fun b15 w16 hb17 hz18 hk19 hB20 => ?_)) rfl
      replace hB20 : Box w16 b15 [.int .i64 (0), .int .i64 (0)] 57 := hB20
      have hs_b15 := hK.size
      have hl_b1_b15 := hB6.lt
      replace hK := hK.trans (Kp.ext hk19)
      replace hB6 := hB6.ext hk19
      replace hR := hR.ext hk19
      replace hO := own_kp hO hk19 (fun _ _ _ x => x)
      replace hA14 := At.ext hA14 hk19
      refine rl0 (o_storeA (vs := [.int .i64 (x11.car), .int .i64 (x11.peak)]) rfl rfl hB20 tyA57 rfl rfl (Nat.le_of_ble_eq_true rfl) (fun w21 hk22 hz23 hB24 => ?_)) rfl
      replace hB24 : Box w21 b15 [.int .i64 (x11.car), .int .i64 (x11.peak)] 57 := hB24
      replace hK := hK.later hk22 (fun i hi hS => by have h1 : i = b15 := hS; omega)
      replace hB6 := hB6.kp hk22 (by show ¬ b1 = b15; omega)
      replace hR := hR.kp hk22 (fun i _ hF hS => by have h1 : i < w.heap.size := hF; have h2 : i = b15 := hS; omega)
      replace hO := own_other hO hB20 (by decide) hk22
      replace hB20 := hB24
      refine rl_nil ?_
      refine cw_region rfl ?_
      refine rl (o_move (v := .slice ao2 i c2) rfl ?_) rfl
      refine rl (o_field rfl fa57_1 ?_) rfl
      refine rl (o_loadB (v := .int .i64 (x11.peak)) rfl hB20 tyS3 rfl ?_) rfl
      refine rl (o_buildSlice (vs := [.int .i64 (x11.peak)]) (n := 1) rfl Tryd.underlying74 elt2 rfl rfl (Nat.le_of_ble_eq_true rfl) (fun b25 w26 hb27 hz28 hk29 hB30 => ?_)) rfl
      replace hB30 : Box w26 b25 [.int .i64 (x11.peak)] 2 := hB30
      have hs_b25 := hK.size
      have hl_b1_b25 := hB6.lt
      have hl_b15_b25 := hB20.lt
      replace hK := hK.trans (Kp.ext hk29)
      replace hB6 := hB6.ext hk29
      replace hB20 := hB20.ext hk29
      replace hR := hR.ext hk29
      replace hO := own_kp hO hk29 (fun _ _ _ x => x)
      refine rl (o_append (news := [.int .i64 (x11.peak)]) rfl rfl Tryd.underlying74 elt2 hO (hB30.at_ 0 1) rfl (by simp [one]) (by omega) (by omega) (by have := hK.size; omega) (fun ao31 c32 w33 hk34 hO35 => ?_)) rfl
      replace hK := hK.later hk34 (fun i hi hS => by have := (own_lt hO i hS).1; omega)
      clear hB30
      replace hB6 := hB6.grown hO (by decide) hk34
      replace hB20 := hB20.grown hO (by decide) hk34
      replace hR := hR.kp hk34 (fun i _ hF hS => by have h1 : i < w.heap.size := hF; have h2 := (own_lt hO i hS).1; omega)
      have hOn : w33.ownsRow w.heap.size 2 1 (.slice ao31 (i + 1) c32) (i + 1) ((ps.take (i + 1)).flatMap fun p => encI p.peak) := by rw [flat_snoc hxe]; exact hO35
      have hO := hOn; clear hOn
      refine rl (o_assign (v := .slice ao31 (i + 1) c32) rfl ?_) rfl
      refine rl_nil ?_
      refine k_bn ?_
      refine k_tn ?_
      refine cw_region rfl ?_
      refine rl (o_add64 (a := (i : Int)) (b := 1) rfl rfl (by omega) (by omega) ?_) rfl
      refine rl (o_move (v := .int .i64 ((i : Int) + 1)) rfl ?_) rfl
      refine rl_nil ?_
      refine k_tn ?_
      refine ⟨_, ?_, _, i + 1, _, _, upds_eq _ _ ⟨rfl, rfl, rfl, rfl, trivial⟩, rfl, by omega, hK, hB6, hR, hO⟩
      omega
    · skip
      refine cw_exit ?_
      refine k_te ?_
      refine k_te ?_
      refine k_bh ?_
      refine k_tn ?_
      refine cw_reg rfl ?_
      refine rl (o_move (v := .slice ao2 i c2) rfl ?_) rfl
      obtain rfl : i = ps.length := by omega
      refine rl (o_call (ssum_ok ao2 c2 (ps.map fun p => p.peak) _ _ (by simp) (by omega) (Rd.of_own1 (f := encI) (h := fun p => p.peak) (ys := ps) (by simpa using hO) rfl (fun _ => rfl) (fun _ => rfl) (by simp))) Tryd.call33 (fun v36 w37 hk38 hv39 => ?_)) rfl
      have hl_b1_w37 := hB6.lt
      have hs_w37 := hK.size
      obtain ⟨q, rfl⟩ := hv39
      replace hK := hK.trans (Kp.ext hk38)
      replace hB6 := hB6.ext hk38
      replace hR := hR.ext hk38
      replace hO := own_kp hO hk38 (fun _ _ _ x => x)
      refine rl (o_move (v := .tuple #[.int .i64 (psum ps), .bool (q)]) rfl ?_) rfl
      refine rl (o_extract (vs := [.int .i64 (psum ps), .bool (q)]) (v := .int .i64 (psum ps)) rfl rfl ?_) rfl
      refine rl (o_extract (vs := [.int .i64 (psum ps), .bool (q)]) (v := .bool (q)) rfl rfl ?_) rfl
      refine rl (o_assign (v := .int .i64 (psum ps)) rfl ?_) rfl
      refine rl (o_assign (v := .bool (q)) rfl ?_) rfl
      refine rl_nil ?_
      refine cw_reg rfl ?_
      refine rl (o_move (v := .int .i64 (psum ps)) rfl ?_) rfl
      refine rl (o_assign (v := .int .i64 (psum ps)) rfl ?_) rfl
      refine rl_nil ?_
      refine cw_ret ?_
      refine ret_intro (v := .int .i64 (psum ps)) (res_ok (vs := [.int .i64 (psum ps)]) rfl ⟨rfl, trivial⟩) hK ?_
      exact rfl

theorem known_ok (c : Int) (w : World)  :
    Calls Tryd.prog 25 #[.int .i64 (c)] w (Ret Non w fun v w' => v = .bool (known c)) := by
  have hK := Kp.refl Non w
  refine calls_cw Tryd.func25 rfl (Nat.le_of_ble_eq_true rfl) ?_
  refine cw_reg rfl ?_
  refine rl (o_assign (v := .bool (false)) rfl ?_) rfl
  refine rl_nil ?_
  refine cw_reg rfl ?_
  refine rl (o_move (v := .int .i64 (c)) rfl ?_) rfl
  refine rl (o_geq rfl rfl ?_) rfl
  refine rl (o_move (v := .bool (decide (0 ≤ c))) rfl ?_) rfl
  by_cases h1 : 0 ≤ c
  · skip
    refine rl (o_move (v := .int .i64 (c)) rfl ?_) (want_t rfl (decide_eq_true h1))
    refine rl (o_lss rfl rfl ?_) (want_t rfl (decide_eq_true h1))
    refine rl (o_pickT (v := .bool (decide (c < 64))) rfl (decide_eq_true h1) rfl ?_) rfl
    refine rl (o_assign (v := .bool (decide (c < 64))) rfl ?_) rfl
    refine rl_nil ?_
    refine cw_ret ?_
    refine ret_intro (v := .bool (decide (c < 64))) (res_ok (vs := [.bool (decide (c < 64))]) rfl ⟨rfl, trivial⟩) hK ?_
    simp [known, *]
  · skip
    refine rlo ?_ (want_f rfl (decide_eq_false h1) (by decide))
    refine rlo ?_ (want_f rfl (decide_eq_false h1) (by decide))
    refine rl (o_pickF (v := .bool (false)) rfl (decide_eq_false h1) rfl ?_) rfl
    refine rl (o_assign (v := .bool (false)) rfl ?_) rfl
    refine rl_nil ?_
    refine cw_ret ?_
    refine ret_intro (v := .bool (false)) (res_ok (vs := [.bool (false)]) rfl ⟨rfl, trivial⟩) hK ?_
    simp [known, *]

theorem power_ok (c : Int) (w : World)  :
    Calls Tryd.prog 26 #[.int .i64 (c)] w (Ret Non w fun v w' => v = .bool (power c)) := by
  have hK := Kp.refl Non w
  refine calls_cw Tryd.func26 rfl (Nat.le_of_ble_eq_true rfl) ?_
  refine cw_reg rfl ?_
  refine rl (o_assign (v := .bool (false)) rfl ?_) rfl
  refine rl_nil ?_
  refine cw_reg rfl ?_
  refine rl (o_move (v := .int .i64 (c)) rfl ?_) rfl
  refine rl (o_geq rfl rfl ?_) rfl
  refine rl (o_move (v := .bool (decide (0 ≤ c))) rfl ?_) rfl
  by_cases h1 : 0 ≤ c
  · skip
    refine rl (o_move (v := .int .i64 (c)) rfl ?_) (want_t rfl (decide_eq_true h1))
    refine rl (o_leq rfl rfl ?_) (want_t rfl (decide_eq_true h1))
    refine rl (o_pickT (v := .bool (decide (c ≤ 1048576))) rfl (decide_eq_true h1) rfl ?_) rfl
    refine rl (o_assign (v := .bool (decide (c ≤ 1048576))) rfl ?_) rfl
    refine rl_nil ?_
    refine cw_ret ?_
    refine ret_intro (v := .bool (decide (c ≤ 1048576))) (res_ok (vs := [.bool (decide (c ≤ 1048576))]) rfl ⟨rfl, trivial⟩) hK ?_
    simp [power, *]
  · skip
    refine rlo ?_ (want_f rfl (decide_eq_false h1) (by decide))
    refine rlo ?_ (want_f rfl (decide_eq_false h1) (by decide))
    refine rl (o_pickF (v := .bool (false)) rfl (decide_eq_false h1) rfl ?_) rfl
    refine rl (o_assign (v := .bool (false)) rfl ?_) rfl
    refine rl_nil ?_
    refine cw_ret ?_
    refine ret_intro (v := .bool (false)) (res_ok (vs := [.bool (false)]) rfl ⟨rfl, trivial⟩) hK ?_
    simp [power, *]

theorem checklit_ok (q1 q2 c1 c2 : Int) (b0 : Nat) (w : World) (hB0 : Box w b0 [.int .i64 (c1), .int .i64 (c2)] 57) :
    Calls Tryd.prog 24 #[.agg #[.int .i64 (q1), .int .i64 (q2)], .pointer (some ⟨b0, 0, none⟩)] w (Ret Non w fun v w' => v = .bool (decide (q1 = c1))) := by
  have hK := Kp.refl Non w
  have hl_b0 := hB0.lt
  refine calls_cw Tryd.func24 rfl (Nat.le_of_ble_eq_true rfl) ?_
  refine cw_reg rfl ?_
  refine rl (o_box (v := .agg #[.int .i64 (q1), .int .i64 (q2)]) rfl (fun b1 w2 hb3 hz4 hk5 hB6 => ?_)) rfl
  replace hB6 : Box w2 b1 [.int .i64 (q1), .int .i64 (q2)] 57 := hB6
  have hs_b1 := hK.size
  have hl_b0_b1 := hB0.lt
  replace hK := hK.trans (Kp.ext hk5)
  replace hB0 := hB0.ext hk5
  refine rl (o_assign (v := .bool (false)) rfl ?_) rfl
  refine rl_nil ?_
  refine cw_reg rfl ?_
  refine rl (o_field rfl fa57_0 ?_) rfl
  refine rl (o_loadB (v := .int .i64 (q1)) rfl hB6 tyS3 rfl ?_) rfl
  refine rl (o_field rfl fa57_0 ?_) rfl
  refine rl (o_loadB (v := .int .i64 (c1)) rfl hB0 tyS3 rfl ?_) rfl
  refine rl (o_eql rfl rfl ?_) rfl
  refine rl (o_assign (v := .bool (decide (q1 = c1))) rfl ?_) rfl
  refine rl_nil ?_
  refine cw_ret ?_
  refine ret_intro (v := .bool (decide (q1 = c1))) (res_ok (vs := [.bool (decide (q1 = c1))]) rfl ⟨rfl, trivial⟩) hK ?_
  exact rfl

theorem atlit_ok (q1 q2 c : Int) (b0 : Nat) (w : World) (hB0 : Box w b0 [.int .i64 (c)] 3) :
    Calls Tryd.prog 43 #[.agg #[.int .i64 (q1), .int .i64 (q2)], .pointer (some ⟨b0, 0, none⟩)] w (Ret Non w fun v w' => v = .bool (decide (q1 = c))) := by
  have hK := Kp.refl Non w
  have hl_b0 := hB0.lt
  refine calls_cw Tryd.func43 rfl (Nat.le_of_ble_eq_true rfl) ?_
  refine cw_reg rfl ?_
  refine rl (o_box (v := .agg #[.int .i64 (q1), .int .i64 (q2)]) rfl (fun b1 w2 hb3 hz4 hk5 hB6 => ?_)) rfl
  replace hB6 : Box w2 b1 [.int .i64 (q1), .int .i64 (q2)] 57 := hB6
  have hs_b1 := hK.size
  have hl_b0_b1 := hB0.lt
  replace hK := hK.trans (Kp.ext hk5)
  replace hB0 := hB0.ext hk5
  refine rl (o_assign (v := .bool (false)) rfl ?_) rfl
  refine rl_nil ?_
  refine cw_reg rfl ?_
  refine rl (o_field rfl fa57_0 ?_) rfl
  refine rl (o_loadB (v := .int .i64 (q1)) rfl hB6 tyS3 rfl ?_) rfl
  refine rl (o_loadB (v := .int .i64 (c)) rfl hB0 tyS3 rfl ?_) rfl
  refine rl (o_eql rfl rfl ?_) rfl
  refine rl (o_assign (v := .bool (decide (q1 = c))) rfl ?_) rfl
  refine rl_nil ?_
  refine cw_ret ?_
  refine ret_intro (v := .bool (decide (q1 = c))) (res_ok (vs := [.bool (decide (q1 = c))]) rfl ⟨rfl, trivial⟩) hK ?_
  exact rfl

theorem indexFunc_ok {F : Nat → Prop} (ao : Option Addr) (cp : Nat) (ps : List Permit) (g : Nat) (caps : List Value) (p : Permit → Bool) (n : Nat) (w : World) (hl_n : n = ps.length) (hn : n ≤ 1000000000000) (hg : ∀ args w, (callFunc g args).run Tryd.prog w = .ok (.enter g args) w) (hp : ∀ w' (x : Permit), Ext w w' → Calls Tryd.prog g ([Value.agg #[.int .i64 x.car, .int .i64 x.peak]] ++ caps).toArray w' (Ret Non w' fun v _ => v = .bool (p x))) (hR : Rd F w 2 (.slice ao n cp) (ps.map encP)) :
    Calls Tryd.prog 35 #[.slice ao n cp, .func (.func g) #[] caps.toArray] w (Ret Non w fun v w' => v = .int .i64 (idxOf p ps)) := by
  have hK := Kp.refl Non w
  subst hl_n
  replace hR := hR.old
  refine calls_cw Tryd.func35 rfl (Nat.le_of_ble_eq_true rfl) ?_
  refine cw_reg rfl ?_
  refine rl (o_assign (v := .int .i64 (0)) rfl ?_) rfl
  refine rl_nil ?_
  refine cw_seq ?_
  refine cw_reg rfl ?_
  refine rl (o_move (v := .slice ao ps.length cp) rfl ?_) rfl
  refine rl (o_len rfl Tryd.underlying30 ?_) rfl
  refine rl (o_move (v := .int .i64 (0)) rfl ?_) rfl
  refine rl_nil ?_
  refine cw_block ?_
  refine cw_loop (fun mm ρ' w' => ∃ (ρ0 : Env) (i : Nat), (ρ' = upds ρ0 [(0, .slice ao ps.length cp), (1, .func (.func g) #[] caps.toArray), (7, .int .i64 (((ps.length : Nat) : Int))), (8, .int .i64 ((i : Int)))]) ∧ (mm = ps.length - i) ∧ (i ≤ ps.length) ∧ ((ps.take i).all (fun x => !p x) = true) ∧ (Kp Non w w') ∧ (Rd (fun b => b < w.heap.size) w' 2 (.slice ao ps.length cp) (ps.map encP))) (ps.length - (0)) ?_ ?_
  · skip
    exact ⟨_, 0, upds_eq _ _ ⟨rfl, rfl, rfl, rfl, trivial⟩, rfl, Nat.zero_le _, rfl, hK, hR⟩
  · rintro mm ρ1 w1 ⟨ρ0, i, rfl, rfl, hi, hall, hK, hR⟩
    refine cw_reg rfl ?_
    refine rl (o_lss rfl rfl ?_) rfl
    refine rl_nil ?_
    refine cw_seq ?_
    refine cw_if rfl (fun h2 => ?_) (fun h2 => ?_)
    · skip
      refine cw_skip ?_
      refine k_tn ?_
      refine cw_seq ?_
      refine cw_block ?_
      refine cw_reg rfl ?_
      refine rl (o_move (v := .int .i64 ((i : Int))) rfl ?_) rfl
      refine rl (o_assign (v := .int .i64 ((i : Int))) rfl ?_) rfl
      refine rl_nil ?_
      refine cw_reg rfl ?_
      refine rl (o_move (v := .func (.func g) #[] caps.toArray) rfl ?_) rfl
      refine rl (o_move (v := .slice ao ps.length cp) rfl ?_) rfl
      refine rl (o_move (v := .int .i64 ((i : Int))) rfl ?_) rfl
      refine rl (o_idxM (i := (i : Int)) (f := encP) (xs := ps) rfl rfl Tryd.underlying30 Tryd.sizeOf57 hR (by omega) (by omega) (fun b3 o4 x5 hx6 hF7 hA8 => ?_)) rfl
      have hxe : ps[i]? = some x5 := by simpa using hx6
      refine rl (o_loadA (cs := [.int .i64 (x5.car), .int .i64 (x5.peak)]) rfl tyA57 rfl hA8 ?_) rfl
      refine rl (o_callDyn (caps := caps) rfl (hp _ x5 hK) hg (fun v9 w10 hk11 hv12 => ?_)) rfl
      have hs_w10 := hK.size
      obtain rfl := hv12
      replace hK := hK.trans (Kp.ext hk11)
      replace hR := hR.ext hk11
      replace hA8 := At.ext hA8 hk11
      refine rl_nil ?_
      refine cw_cond rfl (fun h13 => ?_) (fun h13 => ?_)
      · skip
        refine cw_reg rfl ?_
        refine rl (o_move (v := .int .i64 ((i : Int))) rfl ?_) rfl
        refine rl (o_assign (v := .int .i64 ((i : Int))) rfl ?_) rfl
        refine rl_nil ?_
        refine cw_ret ?_
        refine k_br ?_
        refine k_tr ?_
        refine k_tr ?_
        refine k_br ?_
        refine k_tr ?_
        refine ret_intro (v := .int .i64 ((i : Int))) (res_ok (vs := [.int .i64 ((i : Int))]) rfl ⟨rfl, trivial⟩) hK ?_
        exact congrArg (Value.int .i64) (idxOf_hit hall hxe (by assumption)).symm
      · skip
        refine cw_skip ?_
        refine k_bn ?_
        refine k_tn ?_
        refine cw_region rfl ?_
        refine rl (o_add64 (a := (i : Int)) (b := 1) rfl rfl (by omega) (by omega) ?_) rfl
        refine rl (o_move (v := .int .i64 ((i : Int) + 1)) rfl ?_) rfl
        refine rl_nil ?_
        refine k_tn ?_
        refine ⟨_, ?_, _, i + 1, upds_eq _ _ ⟨rfl, rfl, rfl, rfl, trivial⟩, rfl, by omega, (by rw [take_snoc hxe]; simp_all), hK, hR⟩
        omega
    · skip
      refine cw_exit ?_
      refine k_te ?_
      refine k_te ?_
      refine k_bh ?_
      refine k_tn ?_
      refine cw_reg rfl ?_
      refine rl (o_assign (v := .int .i64 (-1)) rfl ?_) rfl
      refine rl_nil ?_
      refine cw_ret ?_
      refine ret_intro (v := .int .i64 (-1)) (res_ok (vs := [.int .i64 (-1)]) rfl ⟨rfl, trivial⟩) hK ?_
      exact congrArg (Value.int .i64) (idxOf_miss (by rw [show i = ps.length by omega, List.take_length] at hall; exact hall)).symm

theorem containsFunc_ok {F : Nat → Prop} (ao : Option Addr) (cp : Nat) (ps : List Permit) (g : Nat) (caps : List Value) (p : Permit → Bool) (n : Nat) (w : World) (hl_n : n = ps.length) (hn : n ≤ 1000000000000) (hg : ∀ args w, (callFunc g args).run Tryd.prog w = .ok (.enter g args) w) (hp : ∀ w' (x : Permit), Ext w w' → Calls Tryd.prog g ([Value.agg #[.int .i64 x.car, .int .i64 x.peak]] ++ caps).toArray w' (Ret Non w' fun v _ => v = .bool (p x))) (hR : Rd F w 2 (.slice ao n cp) (ps.map encP)) :
    Calls Tryd.prog 23 #[.slice ao n cp, .func (.func g) #[] caps.toArray] w (Ret Non w fun v w' => v = .bool (decide (0 ≤ idxOf p ps))) := by
  have hK := Kp.refl Non w
  subst hl_n
  replace hR := hR.old
  refine calls_cw Tryd.func23 rfl (Nat.le_of_ble_eq_true rfl) ?_
  refine cw_reg rfl ?_
  refine rl (o_assign (v := .bool (false)) rfl ?_) rfl
  refine rl_nil ?_
  refine cw_reg rfl ?_
  refine rl (o_move (v := .slice ao ps.length cp) rfl ?_) rfl
  refine rl (o_move (v := .func (.func g) #[] caps.toArray) rfl ?_) rfl
  refine rl (o_call (indexFunc_ok ao cp ps g caps p _ _ rfl hn hg hp hR) Tryd.call35 (fun v1 w2 hk3 hv4 => ?_)) rfl
  have hs_w2 := hK.size
  obtain rfl := hv4
  replace hK := hK.trans (Kp.ext hk3)
  replace hR := hR.ext hk3
  refine rl (o_geq rfl rfl ?_) rfl
  refine rl (o_assign (v := .bool (decide (0 ≤ idxOf p ps))) rfl ?_) rfl
  refine rl_nil ?_
  refine cw_ret ?_
  refine ret_intro (v := .bool (decide (0 ≤ idxOf p ps))) (res_ok (vs := [.bool (decide (0 ≤ idxOf p ps))]) rfl ⟨rfl, trivial⟩) hK ?_
  exact rfl

theorem lat_ok {F : Nat → Prop} (b m c : Int) (ao : Option Addr) (cp : Nat) (ps : List Permit) (car : Int) (n : Nat) (w : World) (hl_n : n = ps.length) (hn : n ≤ 1000000) (hR : Rd F w 2 (.slice ao n cp) (ps.map encP)) :
    Calls Tryd.prog 34 #[.agg #[.int .i64 (b), .int .i64 (m), .int .i64 (c), .slice ao n cp], .int .i64 (car)] w (Ret Non w fun v w' => v = .int .i64 (idxOf (fun p : Permit => decide (p.car = car)) ps)) := by
  have hK := Kp.refl Non w
  subst hl_n
  replace hR := hR.old
  refine calls_cw Tryd.func34 rfl (Nat.le_of_ble_eq_true rfl) ?_
  refine cw_reg rfl ?_
  refine rl (o_box (v := .agg #[.int .i64 (b), .int .i64 (m), .int .i64 (c), .slice ao ps.length cp]) rfl (fun b1 w2 hb3 hz4 hk5 hB6 => ?_)) rfl
  replace hB6 : Box w2 b1 [.int .i64 (b), .int .i64 (m), .int .i64 (c), .slice ao ps.length cp] 32 := hB6
  have hs_b1 := hK.size
  replace hK := hK.trans (Kp.ext hk5)
  replace hR := hR.ext hk5
  refine rl (o_box (v := .int .i64 (car)) rfl (fun b7 w8 hb9 hz10 hk11 hB12 => ?_)) rfl
  replace hB12 : Box w8 b7 [.int .i64 (car)] 3 := hB12
  have hs_b7 := hK.size
  have hl_b1_b7 := hB6.lt
  replace hK := hK.trans (Kp.ext hk11)
  replace hB6 := hB6.ext hk11
  replace hR := hR.ext hk11
  refine rl (o_assign (v := .int .i64 (0)) rfl ?_) rfl
  refine rl_nil ?_
  refine cw_reg rfl ?_
  refine rl (o_field rfl fa32_3 ?_) rfl
  refine rl (o_loadB (v := .slice ao ps.length cp) rfl hB6 tyS30 rfl ?_) rfl
  refine rl (o_makeFunc ?_) rfl
  refine rl (o_call (indexFunc_ok ao cp ps 43 [.pointer (some ⟨b7, 0, none⟩)] (fun p : Permit => decide (p.car = car)) _ _ rfl (by omega) Tryd.call43 (fun w2 x hE => atlit_ok x.car x.peak car b7 _ (hB12.ext hE)) hR) Tryd.call35 (fun v13 w14 hk15 hv16 => ?_)) rfl
  have hl_b1_w14 := hB6.lt
  have hl_b7_w14 := hB12.lt
  have hs_w14 := hK.size
  obtain rfl := hv16
  replace hK := hK.trans (Kp.ext hk15)
  replace hB6 := hB6.ext hk15
  replace hB12 := hB12.ext hk15
  replace hR := hR.ext hk15
  refine rl (o_assign (v := .int .i64 (idxOf (fun p : Permit => decide (p.car = car)) ps)) rfl ?_) rfl
  refine rl_nil ?_
  refine cw_ret ?_
  refine ret_intro (v := .int .i64 (idxOf (fun p : Permit => decide (p.car = car)) ps)) (res_ok (vs := [.int .i64 (idxOf (fun p : Permit => decide (p.car = car)) ps)]) rfl ⟨rfl, trivial⟩) hK ?_
  exact rfl

theorem check_ok {F : Nat → Prop} (b m c : Int) (ao : Option Addr) (cp : Nat) (ps : List Permit) (n : Nat) (w : World) (hl_n : n = ps.length) (hn : n ≤ 9223372036854775807) (hR : Rd F w 2 (.slice ao n cp) (ps.map encP)) :
    Calls Tryd.prog 9 #[.agg #[.int .i64 (b), .int .i64 (m), .int .i64 (c), .slice ao n cp]] w (Ret Non w fun v w' => v = .bool (check ⟨b, m, c, ps⟩)) := by
  have hK := Kp.refl Non w
  subst hl_n
  replace hR := hR.old
  refine calls_cw Tryd.func9 rfl (Nat.le_of_ble_eq_true rfl) ?_
  refine cw_reg rfl ?_
  refine rl (o_box (v := .agg #[.int .i64 (b), .int .i64 (m), .int .i64 (c), .slice ao ps.length cp]) rfl (fun b1 w2 hb3 hz4 hk5 hB6 => ?_)) rfl
  replace hB6 : Box w2 b1 [.int .i64 (b), .int .i64 (m), .int .i64 (c), .slice ao ps.length cp] 32 := hB6
  have hs_b1 := hK.size
  replace hK := hK.trans (Kp.ext hk5)
  replace hR := hR.ext hk5
  refine rl (o_assign (v := .bool (false)) rfl ?_) rfl
  refine rl_nil ?_
  refine cw_seq ?_
  refine cw_reg rfl ?_
  refine rl (o_field rfl fa32_3 ?_) rfl
  refine rl (o_loadB (v := .slice ao ps.length cp) rfl hB6 tyS30 rfl ?_) rfl
  refine rl (o_len rfl Tryd.underlying30 ?_) rfl
  refine rl (o_move (v := .int .i64 (0)) rfl ?_) rfl
  refine rl_nil ?_
  refine cw_block ?_
  refine cw_loop (fun mm ρ' w' => ∃ (ρ0 : Env) (i : Nat), (ρ' = upds ρ0 [(1, .pointer (some ⟨b1, 0, none⟩)), (7, .slice ao ps.length cp), (8, .int .i64 (((ps.length : Nat) : Int))), (9, .int .i64 ((i : Int)))]) ∧ (mm = ps.length - i) ∧ (i ≤ ps.length) ∧ (okPermits (ps.take i) (ps.drop i) = okPermits [] ps) ∧ (okPermits [] (ps.take i) = true) ∧ (Kp Non w w') ∧ (Box w' b1 [.int .i64 (b), .int .i64 (m), .int .i64 (c), .slice ao ps.length cp] 32) ∧ (Rd (fun b => b < w.heap.size) w' 2 (.slice ao ps.length cp) (ps.map encP))) (ps.length - (0)) ?_ ?_
  · skip
    exact ⟨_, 0, upds_eq _ _ ⟨rfl, rfl, rfl, rfl, trivial⟩, rfl, Nat.zero_le _, rfl, rfl, hK, hB6, hR⟩
  · rintro mm ρ1 w7 ⟨ρ0, i, rfl, rfl, hi, hall, hok, hK, hB6, hR⟩
    have h64 : i ≤ 64 := by have := ok_len64 hok; rw [List.length_take] at this; omega
    refine cw_reg rfl ?_
    refine rl (o_lss rfl rfl ?_) rfl
    refine rl_nil ?_
    refine cw_seq ?_
    refine cw_if rfl (fun h8 => ?_) (fun h8 => ?_)
    · skip
      refine cw_skip ?_
      refine k_tn ?_
      refine cw_seq ?_
      refine cw_block ?_
      refine cw_reg rfl ?_
      refine rl (o_move (v := .int .i64 ((i : Int))) rfl ?_) rfl
      refine rl (o_idxM (i := (i : Int)) (f := encP) (xs := ps) rfl rfl Tryd.underlying30 Tryd.sizeOf57 hR (by omega) (by omega) (fun b9 o10 x11 hx12 hF13 hA14 => ?_)) rfl
      have hxe : ps[i]? = some x11 := by simpa using hx12
      refine rl (o_loadA (cs := [.int .i64 (x11.car), .int .i64 (x11.peak)]) rfl tyA57 rfl hA14 ?_) rfl
      refine rl (o_alloc Tryd.zeroValue57 (fun b15 w16 hb17 hz18 hk19 hB20 => ?_)) rfl
      replace hB20 : Box w16 b15 [.int .i64 (0), .int .i64 (0)] 57 := hB20
      have hs_b15 := hK.size
      have hl_b1_b15 := hB6.lt
      replace hK := hK.trans (Kp.ext hk19)
      replace hB6 := hB6.ext hk19
      replace hR := hR.ext hk19
      replace hA14 := At.ext hA14 hk19
      refine rl (o_assign (v := .int .i64 ((i : Int))) rfl ?_) rfl
      refine rl0 (o_storeA (vs := [.int .i64 (x11.car), .int .i64 (x11.peak)]) rfl rfl hB20 tyA57 rfl rfl (Nat.le_of_ble_eq_true rfl) (fun w21 hk22 hz23 hB24 => ?_)) rfl
      replace hB24 : Box w21 b15 [.int .i64 (x11.car), .int .i64 (x11.peak)] 57 := hB24
      replace hK := hK.later hk22 (fun i hi hS => by have h1 : i = b15 := hS; omega)
      replace hB6 := hB6.kp hk22 (by show ¬ b1 = b15; omega)
      replace hR := hR.kp hk22 (fun i _ hF hS => by have h1 : i < w.heap.size := hF; have h2 : i = b15 := hS; omega)
      replace hB20 := hB24
      refine rl_nil ?_
      refine cw_reg rfl ?_
      refine rl (o_field rfl fa32_3 ?_) rfl
      refine rl (o_loadB (v := .slice ao ps.length cp) rfl hB6 tyS30 rfl ?_) rfl
      refine rl (o_move (v := .int .i64 ((i : Int))) rfl ?_) rfl
      refine rl (o_sliceTo (i := (i : Int)) rfl rfl Tryd.underlying30 Tryd.sizeOf57 hR (by omega) (by simp only [List.length_map]; omega) (fun ao25 c26 hR27 => ?_)) rfl
      replace hR27 : Rd (fun b => b < w.heap.size) w21 2 (.slice ao25 (((i : Int)).toNat) c26) ((ps.take ((i : Int)).toNat).map encP) := by first | exact hR27 | (simp only [← List.map_drop, ← List.map_take] at hR27; exact hR27)
      refine rl (o_makeFunc ?_) rfl
      refine rl (o_call (containsFunc_ok _ _ (ps.take i) 24 [.pointer (some ⟨b15, 0, none⟩)] (fun q : Permit => decide (q.car = x11.car)) _ _ (by simp; omega) (by simp; omega) Tryd.call24 (fun w2 x hE => checklit_ok x.car x.peak x11.car x11.peak b15 _ (hB20.ext hE)) hR27) Tryd.call23 (fun v28 w29 hk30 hv31 => ?_)) rfl
      have hl_b1_w29 := hB6.lt
      have hl_b15_w29 := hB20.lt
      have hs_w29 := hK.size
      obtain rfl := hv31
      replace hK := hK.trans (Kp.ext hk30)
      replace hB6 := hB6.ext hk30
      replace hB20 := hB20.ext hk30
      replace hR := hR.ext hk30
      replace hR27 := hR27.ext hk30
      refine rl (o_assign (v := .bool (decide (0 ≤ idxOf (fun q : Permit => decide (q.car = x11.car)) (ps.take i)))) rfl ?_) rfl
      refine rl_nil ?_
      refine cw_reg rfl ?_
      refine rl (o_move (v := .bool (decide (0 ≤ idxOf (fun q : Permit => decide (q.car = x11.car)) (ps.take i)))) rfl ?_) rfl
      refine rl (o_move (v := .bool (decide (0 ≤ idxOf (fun q : Permit => decide (q.car = x11.car)) (ps.take i)))) rfl ?_) rfl
      by_cases h32 : 0 ≤ idxOf (fun q : Permit => decide (q.car = x11.car)) (ps.take i)
      · skip
        refine rlo ?_ (want_f rfl (decide_eq_true h32) (by decide))
        refine rlo ?_ (want_f rfl (decide_eq_true h32) (by decide))
        refine rlo ?_ (want_f rfl (decide_eq_true h32) (by decide))
        refine rlo ?_ (want_f rfl (decide_eq_true h32) (by decide))
        refine rl (o_pickT (v := .bool (true)) rfl (decide_eq_true h32) rfl ?_) rfl
        refine rl (o_move (v := .bool (true)) rfl ?_) rfl
        refine rlo ?_ (want_f rfl (rfl) (by decide))
        refine rlo ?_ (want_f rfl (rfl) (by decide))
        refine rlo ?_ (want_f rfl (rfl) (by decide))
        refine rlo ?_ (want_f rfl (rfl) (by decide))
        refine rl (o_pickT (v := .bool (true)) rfl (rfl) rfl ?_) rfl
        refine rl_nil ?_
        refine cw_condT rfl ?_
        refine cw_reg rfl ?_
        refine rl (o_assign (v := .bool (false)) rfl ?_) rfl
        refine rl_nil ?_
        refine cw_ret ?_
        refine k_br ?_
        refine k_tr ?_
        refine k_tr ?_
        refine k_br ?_
        refine k_tr ?_
        refine ret_intro (v := .bool (false)) (res_ok (vs := [.bool (false)]) rfl ⟨rfl, trivial⟩) hK ?_
        first | (exact congrArg Value.bool (check_not (by rw [← hall, ok_step hxe]; simp_all)).symm) | (rw [check_of (ok_end hall (by omega))]; simp_all)
      · skip
        refine rl (o_field rfl fa57_0 ?_) (want_t rfl (decide_eq_false h32))
        refine rl (o_loadB (v := .int .i64 (x11.car)) rfl hB20 tyS3 rfl ?_) (want_t rfl (decide_eq_false h32))
        refine rl (o_call (known_ok x11.car _) Tryd.call25 (fun v33 w34 hk35 hv36 => ?_)) (want_t rfl (decide_eq_false h32))
        have hl_b1_w34 := hB6.lt
        have hl_b15_w34 := hB20.lt
        have hs_w34 := hK.size
        obtain rfl := hv36
        replace hK := hK.trans (Kp.ext hk35)
        replace hB6 := hB6.ext hk35
        replace hB20 := hB20.ext hk35
        replace hR := hR.ext hk35
        replace hR27 := hR27.ext hk35
        refine rl (o_not rfl ?_) (want_t rfl (decide_eq_false h32))
        refine rl (o_pickF (v := .bool (!(known x11.car))) rfl (decide_eq_false h32) rfl ?_) rfl
        refine rl (o_move (v := .bool (!(known x11.car))) rfl ?_) rfl
        rcases Bool.eq_false_or_eq_true (!(known x11.car)) with h37 | h37
        · skip
          refine rlo ?_ (want_f rfl (h37) (by decide))
          refine rlo ?_ (want_f rfl (h37) (by decide))
          refine rlo ?_ (want_f rfl (h37) (by decide))
          refine rlo ?_ (want_f rfl (h37) (by decide))
          refine rl (o_pickT (v := .bool (true)) rfl (h37) rfl ?_) rfl
          refine rl_nil ?_
          refine cw_condT rfl ?_
          refine cw_reg rfl ?_
          refine rl (o_assign (v := .bool (false)) rfl ?_) rfl
          refine rl_nil ?_
          refine cw_ret ?_
          refine k_br ?_
          refine k_tr ?_
          refine k_tr ?_
          refine k_br ?_
          refine k_tr ?_
          refine ret_intro (v := .bool (false)) (res_ok (vs := [.bool (false)]) rfl ⟨rfl, trivial⟩) hK ?_
          first | (exact congrArg Value.bool (check_not (by rw [← hall, ok_step hxe]; simp_all)).symm) | (rw [check_of (ok_end hall (by omega))]; simp_all)
        · skip
          refine rl (o_field rfl fa57_1 ?_) (want_t rfl (h37))
          refine rl (o_loadB (v := .int .i64 (x11.peak)) rfl hB20 tyS3 rfl ?_) (want_t rfl (h37))
          refine rl (o_call (power_ok x11.peak _) Tryd.call26 (fun v38 w39 hk40 hv41 => ?_)) (want_t rfl (h37))
          have hl_b1_w39 := hB6.lt
          have hl_b15_w39 := hB20.lt
          have hs_w39 := hK.size
          obtain rfl := hv41
          replace hK := hK.trans (Kp.ext hk40)
          replace hB6 := hB6.ext hk40
          replace hB20 := hB20.ext hk40
          replace hR := hR.ext hk40
          replace hR27 := hR27.ext hk40
          refine rl (o_not rfl ?_) (want_t rfl (h37))
          refine rl (o_pickF (v := .bool (!(power x11.peak))) rfl (h37) rfl ?_) rfl
          refine rl_nil ?_
          refine cw_cond rfl (fun h42 => ?_) (fun h42 => ?_)
          · skip
            refine cw_reg rfl ?_
            refine rl (o_assign (v := .bool (false)) rfl ?_) rfl
            refine rl_nil ?_
            refine cw_ret ?_
            refine k_br ?_
            refine k_tr ?_
            refine k_tr ?_
            refine k_br ?_
            refine k_tr ?_
            refine ret_intro (v := .bool (false)) (res_ok (vs := [.bool (false)]) rfl ⟨rfl, trivial⟩) hK ?_
            first | (exact congrArg Value.bool (check_not (by rw [← hall, ok_step hxe]; simp_all)).symm) | (rw [check_of (ok_end hall (by omega))]; simp_all)
          · skip
            refine cw_skip ?_
            refine k_bn ?_
            refine k_tn ?_
            refine cw_region rfl ?_
            refine rl (o_add64 (a := (i : Int)) (b := 1) rfl rfl (by omega) (by omega) ?_) rfl
            refine rl (o_move (v := .int .i64 ((i : Int) + 1)) rfl ?_) rfl
            refine rl_nil ?_
            refine k_tn ?_
            refine ⟨_, ?_, _, i + 1, upds_eq _ _ ⟨rfl, rfl, rfl, rfl, trivial⟩, rfl, by omega, (by rw [← hall, ok_step hxe]; simp_all), (ok_take hxe hok (by assumption) (by assumption) (by assumption)), hK, hB6, hR⟩
            omega
    · skip
      refine cw_exit ?_
      refine k_te ?_
      refine k_te ?_
      refine k_bh ?_
      refine k_tn ?_
      rcases Bool.eq_false_or_eq_true (power b) with h43 | h43
      · skip
        rcases Bool.eq_false_or_eq_true (power m) with h44 | h44
        · skip
          rcases Bool.eq_false_or_eq_true (power c) with h45 | h45
          · skip
            have hl_b1_d1 := hB6.lt
            refine cw_norm [(1, .pointer (some ⟨b1, 0, none⟩))] ⟨rfl, trivial⟩ (fun ρr62 => ?_)
            refine cw_drawn [.val (.pointer (some ⟨b1, 0, none⟩)), .val (.int .i64 (b)), .val (.bool (power b)), .val (.bool (power b)), .val (.pointer (some ⟨b1, 1, none⟩)), .val (.int .i64 (m)), .val (.bool (power m)), .val (.bool (power m)), .val (.bool (power m)), .val (.pointer (some ⟨b1, 2, none⟩)), .val (.int .i64 (c)), .val (.bool (power c)), .val (.bool (power c)), .val (.bool (power c)), .val (.agg #[.int .i64 (b), .int .i64 (m), .int .i64 (c), .slice ao ps.length cp]), .val (.int .i64 (psum ps)), .val (.pointer (some ⟨b1, 0, none⟩)), .val (.int .i64 (b))] [[], [0], [0, 1], [0, 1, 2], [0, 1, 2, 3], [0, 1, 2, 3, 4], [0, 1, 2, 3, 4, 5], [0, 1, 2, 3, 4, 5, 6], [0, 1, 2, 3, 4, 5, 6, 7], [0, 1, 2, 3, 4, 5, 6, 7, 8], [0, 1, 2, 3, 4, 5, 6, 7, 8, 9], [0, 1, 2, 3, 4, 5, 6, 7, 8, 9, 10], [0, 1, 2, 3, 4, 5, 6, 7, 8, 9, 10, 11], [0, 1, 2, 3, 4, 5, 6, 7, 8, 9, 10, 11, 12], [0, 1, 2, 3, 4, 5, 6, 7, 8, 9, 10, 11, 12, 13], [0, 1, 2, 3, 4, 5, 6, 7, 8, 9, 10, 11, 12, 13, 14], [0, 1, 2, 3, 4, 5, 6, 7, 8, 9, 10, 11, 12, 13], [0, 1, 2, 3, 4, 5, 6, 7, 8, 9, 10, 11, 12, 13, 16], [0, 1, 2, 3, 4, 5, 6, 7, 8, 9, 10, 11, 12, 13, 14, 15, 16, 17], [0, 1, 2, 3, 4, 5, 6, 7, 8, 9, 10, 11, 12, 13, 14, 15, 16, 17, 18], [0, 1, 2, 3, 4, 5, 6, 7, 8, 9, 10, 11, 12, 13, 14, 15, 16, 17, 18, 19]] 18 mixed (by kernel_rfl) ⟨trivial, trivial, trivial, trivial, trivial, trivial, trivial, trivial, trivial, trivial, trivial, trivial, trivial, trivial, trivial, trivial, trivial, trivial, trivial⟩ ⟨⟨⟨⟨⟨⟨⟨⟨⟨⟨⟨⟨⟨⟨⟨⟨⟨⟨trivial, ?_⟩, ?_⟩, ?_⟩, ?_⟩, ?_⟩, ?_⟩, ?_⟩, ?_⟩, ?_⟩, ?_⟩, ?_⟩, ?_⟩, ?_⟩, ?_⟩, ?_⟩, ?_⟩, ?_⟩, ?_⟩ (fun w63 vs64 hE65 hkn66 => ?_)
            · refine obl_mk rfl (fun w63k vs hE hkn => ?_)
              replace hK := hK.trans (Kp.ext hE)
              replace hB6 := hB6.ext hE
              replace hR := hR.ext hE
              refine obl_t rfl ?_
              refine opk_norm [(1, .pointer (some ⟨b1, 0, none⟩))] ⟨rfl, trivial⟩ (fun ρq => ?_)
              refine o_field rfl fa32_0 ?_
              exact ⟨Kp.refl _ _, rfl⟩
            · refine obl_mk rfl (fun w63k vs hE hkn => ?_)
              replace hK := hK.trans (Kp.ext hE)
              replace hB6 := hB6.ext hE
              replace hR := hR.ext hE
              refine obl_t rfl ?_
              refine opk_norm [(34, .pointer (some ⟨b1, 0, none⟩))] ⟨rfl, trivial⟩ (fun ρq => ?_)
              refine o_loadB (v := .int .i64 (b)) rfl hB6 tyS3 rfl ?_
              exact ⟨Kp.refl _ _, rfl⟩
            · refine obl_mk rfl (fun w63k vs hE hkn => ?_)
              replace hK := hK.trans (Kp.ext hE)
              replace hB6 := hB6.ext hE
              replace hR := hR.ext hE
              refine obl_t rfl ?_
              refine opk_norm [(35, .int .i64 (b))] ⟨rfl, trivial⟩ (fun ρq => ?_)
              refine o_call (power_ok b _) Tryd.call26 (fun v67 w68 hk69 hv70 => ?_)
              have hl_b1_w68 := hB6.lt
              have hs_w68 := hK.size
              obtain rfl := hv70
              replace hK := hK.trans (Kp.ext hk69)
              replace hB6 := hB6.ext hk69
              replace hR := hR.ext hk69
              exact ⟨hk69, rfl⟩
            · refine obl_mk rfl (fun w63k vs hE hkn => ?_)
              replace hK := hK.trans (Kp.ext hE)
              replace hB6 := hB6.ext hE
              replace hR := hR.ext hE
              refine obl_t rfl ?_
              refine opk_norm [(36, .bool (power b))] ⟨rfl, trivial⟩ (fun ρq => ?_)
              refine o_move (v := .bool (power b)) rfl ?_
              exact ⟨Kp.refl _ _, rfl⟩
            · refine obl_mk rfl (fun w63k vs hE hkn => ?_)
              replace hK := hK.trans (Kp.ext hE)
              replace hB6 := hB6.ext hE
              replace hR := hR.ext hE
              refine obl_t (want_t rfl (h43)) ?_
              refine opk_norm [(1, .pointer (some ⟨b1, 0, none⟩)), (37, .bool (power b))] ⟨rfl, rfl, trivial⟩ (fun ρq => ?_)
              refine o_field rfl fa32_1 ?_
              exact ⟨Kp.refl _ _, rfl⟩
            · refine obl_mk rfl (fun w63k vs hE hkn => ?_)
              replace hK := hK.trans (Kp.ext hE)
              replace hB6 := hB6.ext hE
              replace hR := hR.ext hE
              refine obl_t (want_t rfl (h43)) ?_
              refine opk_norm [(37, .bool (power b)), (38, .pointer (some ⟨b1, 1, none⟩))] ⟨rfl, rfl, trivial⟩ (fun ρq => ?_)
              refine o_loadB (v := .int .i64 (m)) rfl hB6 tyS3 rfl ?_
              exact ⟨Kp.refl _ _, rfl⟩
            · refine obl_mk rfl (fun w63k vs hE hkn => ?_)
              replace hK := hK.trans (Kp.ext hE)
              replace hB6 := hB6.ext hE
              replace hR := hR.ext hE
              refine obl_t (want_t rfl (h43)) ?_
              refine opk_norm [(37, .bool (power b)), (39, .int .i64 (m))] ⟨rfl, rfl, trivial⟩ (fun ρq => ?_)
              refine o_call (power_ok m _) Tryd.call26 (fun v71 w72 hk73 hv74 => ?_)
              have hl_b1_w72 := hB6.lt
              have hs_w72 := hK.size
              obtain rfl := hv74
              replace hK := hK.trans (Kp.ext hk73)
              replace hB6 := hB6.ext hk73
              replace hR := hR.ext hk73
              exact ⟨hk73, rfl⟩
            · refine obl_mk rfl (fun w63k vs hE hkn => ?_)
              replace hK := hK.trans (Kp.ext hE)
              replace hB6 := hB6.ext hE
              replace hR := hR.ext hE
              refine obl_t rfl ?_
              refine opk_norm [(37, .bool (power b)), (40, .bool (power m))] ⟨rfl, rfl, trivial⟩ (fun ρq => ?_)
              refine o_pickT (v := .bool (power m)) rfl (h43) rfl ?_
              exact ⟨Kp.refl _ _, rfl⟩
            · refine obl_mk rfl (fun w63k vs hE hkn => ?_)
              replace hK := hK.trans (Kp.ext hE)
              replace hB6 := hB6.ext hE
              replace hR := hR.ext hE
              refine obl_t rfl ?_
              refine opk_norm [(41, .bool (power m))] ⟨rfl, trivial⟩ (fun ρq => ?_)
              refine o_move (v := .bool (power m)) rfl ?_
              exact ⟨Kp.refl _ _, rfl⟩
            · refine obl_mk rfl (fun w63k vs hE hkn => ?_)
              replace hK := hK.trans (Kp.ext hE)
              replace hB6 := hB6.ext hE
              replace hR := hR.ext hE
              refine obl_t (want_t rfl (h44)) ?_
              refine opk_norm [(1, .pointer (some ⟨b1, 0, none⟩)), (42, .bool (power m))] ⟨rfl, rfl, trivial⟩ (fun ρq => ?_)
              refine o_field rfl fa32_2 ?_
              exact ⟨Kp.refl _ _, rfl⟩
            · refine obl_mk rfl (fun w63k vs hE hkn => ?_)
              replace hK := hK.trans (Kp.ext hE)
              replace hB6 := hB6.ext hE
              replace hR := hR.ext hE
              refine obl_t (want_t rfl (h44)) ?_
              refine opk_norm [(42, .bool (power m)), (43, .pointer (some ⟨b1, 2, none⟩))] ⟨rfl, rfl, trivial⟩ (fun ρq => ?_)
              refine o_loadB (v := .int .i64 (c)) rfl hB6 tyS3 rfl ?_
              exact ⟨Kp.refl _ _, rfl⟩
            · refine obl_mk rfl (fun w63k vs hE hkn => ?_)
              replace hK := hK.trans (Kp.ext hE)
              replace hB6 := hB6.ext hE
              replace hR := hR.ext hE
              refine obl_t (want_t rfl (h44)) ?_
              refine opk_norm [(42, .bool (power m)), (44, .int .i64 (c))] ⟨rfl, rfl, trivial⟩ (fun ρq => ?_)
              refine o_call (power_ok c _) Tryd.call26 (fun v75 w76 hk77 hv78 => ?_)
              have hl_b1_w76 := hB6.lt
              have hs_w76 := hK.size
              obtain rfl := hv78
              replace hK := hK.trans (Kp.ext hk77)
              replace hB6 := hB6.ext hk77
              replace hR := hR.ext hk77
              exact ⟨hk77, rfl⟩
            · refine obl_mk rfl (fun w63k vs hE hkn => ?_)
              replace hK := hK.trans (Kp.ext hE)
              replace hB6 := hB6.ext hE
              replace hR := hR.ext hE
              refine obl_t rfl ?_
              refine opk_norm [(42, .bool (power m)), (45, .bool (power c))] ⟨rfl, rfl, trivial⟩ (fun ρq => ?_)
              refine o_pickT (v := .bool (power c)) rfl (h44) rfl ?_
              exact ⟨Kp.refl _ _, rfl⟩
            · refine obl_mk rfl (fun w63k vs hE hkn => ?_)
              replace hK := hK.trans (Kp.ext hE)
              replace hB6 := hB6.ext hE
              replace hR := hR.ext hE
              refine obl_t rfl ?_
              refine opk_norm [(46, .bool (power c))] ⟨rfl, trivial⟩ (fun ρq => ?_)
              refine o_move (v := .bool (power c)) rfl ?_
              exact ⟨Kp.refl _ _, rfl⟩
            · refine obl_mk rfl (fun w63k vs hE hkn => ?_)
              replace hK := hK.trans (Kp.ext hE)
              replace hB6 := hB6.ext hE
              replace hR := hR.ext hE
              refine obl_t (want_t rfl (h45)) ?_
              refine opk_norm [(1, .pointer (some ⟨b1, 0, none⟩)), (47, .bool (power c))] ⟨rfl, rfl, trivial⟩ (fun ρq => ?_)
              refine o_loadBA (ds := [.int .i64 (b), .int .i64 (m), .int .i64 (c), .slice ao ps.length cp]) rfl hB6 tyA32 rfl rfl ?_
              exact ⟨Kp.refl _ _, rfl⟩
            · refine obl_mk rfl (fun w63k vs hE hkn => ?_)
              replace hK := hK.trans (Kp.ext hE)
              replace hB6 := hB6.ext hE
              replace hR := hR.ext hE
              refine obl_t (want_t rfl (h45)) ?_
              refine opk_norm [(47, .bool (power c)), (48, .agg #[.int .i64 (b), .int .i64 (m), .int .i64 (c), .slice ao ps.length cp])] ⟨rfl, rfl, trivial⟩ (fun ρq => ?_)
              refine o_call (lsum_ok b m c ao cp ps _ _ rfl (by omega) hR) Tryd.call20 (fun v79 w80 hk81 hv82 => ?_)
              have hl_b1_w80 := hB6.lt
              have hs_w80 := hK.size
              obtain rfl := hv82
              replace hK := hK.trans (Kp.ext hk81)
              replace hB6 := hB6.ext hk81
              replace hR := hR.ext hk81
              exact ⟨hk81, rfl⟩
            · refine obl_mk rfl (fun w63k vs hE hkn => ?_)
              replace hK := hK.trans (Kp.ext hE)
              replace hB6 := hB6.ext hE
              replace hR := hR.ext hE
              refine obl_t (want_t rfl (h45)) ?_
              refine opk_norm [(1, .pointer (some ⟨b1, 0, none⟩)), (47, .bool (power c))] ⟨rfl, rfl, trivial⟩ (fun ρq => ?_)
              refine o_field rfl fa32_0 ?_
              exact ⟨Kp.refl _ _, rfl⟩
            · refine obl_mk rfl (fun w63k vs hE hkn => ?_)
              replace hK := hK.trans (Kp.ext hE)
              replace hB6 := hB6.ext hE
              replace hR := hR.ext hE
              refine obl_t (want_t rfl (h45)) ?_
              refine opk_norm [(47, .bool (power c)), (50, .pointer (some ⟨b1, 0, none⟩))] ⟨rfl, rfl, trivial⟩ (fun ρq => ?_)
              refine o_loadB (v := .int .i64 (b)) rfl hB6 tyS3 rfl ?_
              exact ⟨Kp.refl _ _, rfl⟩
            replace hK := hK.trans (Kp.ext hE65)
            replace hB6 := hB6.ext hE65
            replace hR := hR.ext hE65
            refine rl_norm [(47, .bool (power c)), (49, .int .i64 (psum ps)), (51, .int .i64 (b))] ⟨rfl, rfl, rfl, trivial⟩ (fun ρr62q => ?_)
            refine rl (o_leq rfl rfl ?_) (want_t rfl (h45))
            refine rl (o_pickT (v := .bool (decide (psum ps ≤ b))) rfl (h45) rfl ?_) rfl
            refine rl (o_assign (v := .bool (decide (psum ps ≤ b))) rfl ?_) rfl
            refine rl_nil ?_
            refine cw_ret ?_
            refine ret_intro (v := .bool (decide (psum ps ≤ b))) (res_ok (vs := [.bool (decide (psum ps ≤ b))]) rfl ⟨rfl, trivial⟩) hK ?_
            first | (exact congrArg Value.bool (check_not (by rw [← hall, ok_step hxe]; simp_all)).symm) | (rw [check_of (ok_end hall (by omega))]; simp_all)
          · skip
            have hl_b1_d2 := hB6.lt
            refine cw_norm [(1, .pointer (some ⟨b1, 0, none⟩))] ⟨rfl, trivial⟩ (fun ρr95 => ?_)
            refine cw_drawn [.val (.pointer (some ⟨b1, 0, none⟩)), .val (.int .i64 (b)), .val (.bool (power b)), .val (.bool (power b)), .val (.pointer (some ⟨b1, 1, none⟩)), .val (.int .i64 (m)), .val (.bool (power m)), .val (.bool (power m)), .val (.bool (power m)), .val (.pointer (some ⟨b1, 2, none⟩)), .val (.int .i64 (c)), .val (.bool (power c)), .val (.bool (power c)), .val (.bool (power c)), .val (undef), .val (undef), .val (undef), .val (undef)] [[], [0], [0, 1], [0, 1, 2], [0, 1, 2, 3], [0, 1, 2, 3, 4], [0, 1, 2, 3, 4, 5], [0, 1, 2, 3, 4, 5, 6], [0, 1, 2, 3, 4, 5, 6, 7], [0, 1, 2, 3, 4, 5, 6, 7, 8], [0, 1, 2, 3, 4, 5, 6, 7, 8, 9], [0, 1, 2, 3, 4, 5, 6, 7, 8, 9, 10], [0, 1, 2, 3, 4, 5, 6, 7, 8, 9, 10, 11], [0, 1, 2, 3, 4, 5, 6, 7, 8, 9, 10, 11, 12], [0, 1, 2, 3, 4, 5, 6, 7, 8, 9, 10, 11, 12, 13], [0, 1, 2, 3, 4, 5, 6, 7, 8, 9, 10, 11, 12, 13, 14], [0, 1, 2, 3, 4, 5, 6, 7, 8, 9, 10, 11, 12, 13], [0, 1, 2, 3, 4, 5, 6, 7, 8, 9, 10, 11, 12, 13, 16], [0, 1, 2, 3, 4, 5, 6, 7, 8, 9, 10, 11, 12, 13, 14, 15, 16, 17], [0, 1, 2, 3, 4, 5, 6, 7, 8, 9, 10, 11, 12, 13, 14, 15, 16, 17, 18], [0, 1, 2, 3, 4, 5, 6, 7, 8, 9, 10, 11, 12, 13, 14, 15, 16, 17, 18, 19]] 18 mixed (by kernel_rfl) ⟨trivial, trivial, trivial, trivial, trivial, trivial, trivial, trivial, trivial, trivial, trivial, trivial, trivial, trivial, trivial, trivial, trivial, trivial, trivial⟩ ⟨⟨⟨⟨⟨⟨⟨⟨⟨⟨⟨⟨⟨⟨⟨⟨⟨⟨trivial, ?_⟩, ?_⟩, ?_⟩, ?_⟩, ?_⟩, ?_⟩, ?_⟩, ?_⟩, ?_⟩, ?_⟩, ?_⟩, ?_⟩, ?_⟩, ?_⟩, ?_⟩, ?_⟩, ?_⟩, ?_⟩ (fun w96 vs97 hE98 hkn99 => ?_)
            · refine obl_mk rfl (fun w96k vs hE hkn => ?_)
              replace hK := hK.trans (Kp.ext hE)
              replace hB6 := hB6.ext hE
              replace hR := hR.ext hE
              refine obl_t rfl ?_
              refine opk_norm [(1, .pointer (some ⟨b1, 0, none⟩))] ⟨rfl, trivial⟩ (fun ρq => ?_)
              refine o_field rfl fa32_0 ?_
              exact ⟨Kp.refl _ _, rfl⟩
            · refine obl_mk rfl (fun w96k vs hE hkn => ?_)
              replace hK := hK.trans (Kp.ext hE)
              replace hB6 := hB6.ext hE
              replace hR := hR.ext hE
              refine obl_t rfl ?_
              refine opk_norm [(34, .pointer (some ⟨b1, 0, none⟩))] ⟨rfl, trivial⟩ (fun ρq => ?_)
              refine o_loadB (v := .int .i64 (b)) rfl hB6 tyS3 rfl ?_
              exact ⟨Kp.refl _ _, rfl⟩
            · refine obl_mk rfl (fun w96k vs hE hkn => ?_)
              replace hK := hK.trans (Kp.ext hE)
              replace hB6 := hB6.ext hE
              replace hR := hR.ext hE
              refine obl_t rfl ?_
              refine opk_norm [(35, .int .i64 (b))] ⟨rfl, trivial⟩ (fun ρq => ?_)
              refine o_call (power_ok b _) Tryd.call26 (fun v100 w101 hk102 hv103 => ?_)
              have hl_b1_w101 := hB6.lt
              have hs_w101 := hK.size
              obtain rfl := hv103
              replace hK := hK.trans (Kp.ext hk102)
              replace hB6 := hB6.ext hk102
              replace hR := hR.ext hk102
              exact ⟨hk102, rfl⟩
            · refine obl_mk rfl (fun w96k vs hE hkn => ?_)
              replace hK := hK.trans (Kp.ext hE)
              replace hB6 := hB6.ext hE
              replace hR := hR.ext hE
              refine obl_t rfl ?_
              refine opk_norm [(36, .bool (power b))] ⟨rfl, trivial⟩ (fun ρq => ?_)
              refine o_move (v := .bool (power b)) rfl ?_
              exact ⟨Kp.refl _ _, rfl⟩
            · refine obl_mk rfl (fun w96k vs hE hkn => ?_)
              replace hK := hK.trans (Kp.ext hE)
              replace hB6 := hB6.ext hE
              replace hR := hR.ext hE
              refine obl_t (want_t rfl (h43)) ?_
              refine opk_norm [(1, .pointer (some ⟨b1, 0, none⟩)), (37, .bool (power b))] ⟨rfl, rfl, trivial⟩ (fun ρq => ?_)
              refine o_field rfl fa32_1 ?_
              exact ⟨Kp.refl _ _, rfl⟩
            · refine obl_mk rfl (fun w96k vs hE hkn => ?_)
              replace hK := hK.trans (Kp.ext hE)
              replace hB6 := hB6.ext hE
              replace hR := hR.ext hE
              refine obl_t (want_t rfl (h43)) ?_
              refine opk_norm [(37, .bool (power b)), (38, .pointer (some ⟨b1, 1, none⟩))] ⟨rfl, rfl, trivial⟩ (fun ρq => ?_)
              refine o_loadB (v := .int .i64 (m)) rfl hB6 tyS3 rfl ?_
              exact ⟨Kp.refl _ _, rfl⟩
            · refine obl_mk rfl (fun w96k vs hE hkn => ?_)
              replace hK := hK.trans (Kp.ext hE)
              replace hB6 := hB6.ext hE
              replace hR := hR.ext hE
              refine obl_t (want_t rfl (h43)) ?_
              refine opk_norm [(37, .bool (power b)), (39, .int .i64 (m))] ⟨rfl, rfl, trivial⟩ (fun ρq => ?_)
              refine o_call (power_ok m _) Tryd.call26 (fun v104 w105 hk106 hv107 => ?_)
              have hl_b1_w105 := hB6.lt
              have hs_w105 := hK.size
              obtain rfl := hv107
              replace hK := hK.trans (Kp.ext hk106)
              replace hB6 := hB6.ext hk106
              replace hR := hR.ext hk106
              exact ⟨hk106, rfl⟩
            · refine obl_mk rfl (fun w96k vs hE hkn => ?_)
              replace hK := hK.trans (Kp.ext hE)
              replace hB6 := hB6.ext hE
              replace hR := hR.ext hE
              refine obl_t rfl ?_
              refine opk_norm [(37, .bool (power b)), (40, .bool (power m))] ⟨rfl, rfl, trivial⟩ (fun ρq => ?_)
              refine o_pickT (v := .bool (power m)) rfl (h43) rfl ?_
              exact ⟨Kp.refl _ _, rfl⟩
            · refine obl_mk rfl (fun w96k vs hE hkn => ?_)
              replace hK := hK.trans (Kp.ext hE)
              replace hB6 := hB6.ext hE
              replace hR := hR.ext hE
              refine obl_t rfl ?_
              refine opk_norm [(41, .bool (power m))] ⟨rfl, trivial⟩ (fun ρq => ?_)
              refine o_move (v := .bool (power m)) rfl ?_
              exact ⟨Kp.refl _ _, rfl⟩
            · refine obl_mk rfl (fun w96k vs hE hkn => ?_)
              replace hK := hK.trans (Kp.ext hE)
              replace hB6 := hB6.ext hE
              replace hR := hR.ext hE
              refine obl_t (want_t rfl (h44)) ?_
              refine opk_norm [(1, .pointer (some ⟨b1, 0, none⟩)), (42, .bool (power m))] ⟨rfl, rfl, trivial⟩ (fun ρq => ?_)
              refine o_field rfl fa32_2 ?_
              exact ⟨Kp.refl _ _, rfl⟩
            · refine obl_mk rfl (fun w96k vs hE hkn => ?_)
              replace hK := hK.trans (Kp.ext hE)
              replace hB6 := hB6.ext hE
              replace hR := hR.ext hE
              refine obl_t (want_t rfl (h44)) ?_
              refine opk_norm [(42, .bool (power m)), (43, .pointer (some ⟨b1, 2, none⟩))] ⟨rfl, rfl, trivial⟩ (fun ρq => ?_)
              refine o_loadB (v := .int .i64 (c)) rfl hB6 tyS3 rfl ?_
              exact ⟨Kp.refl _ _, rfl⟩
            · refine obl_mk rfl (fun w96k vs hE hkn => ?_)
              replace hK := hK.trans (Kp.ext hE)
              replace hB6 := hB6.ext hE
              replace hR := hR.ext hE
              refine obl_t (want_t rfl (h44)) ?_
              refine opk_norm [(42, .bool (power m)), (44, .int .i64 (c))] ⟨rfl, rfl, trivial⟩ (fun ρq => ?_)
              refine o_call (power_ok c _) Tryd.call26 (fun v108 w109 hk110 hv111 => ?_)
              have hl_b1_w109 := hB6.lt
              have hs_w109 := hK.size
              obtain rfl := hv111
              replace hK := hK.trans (Kp.ext hk110)
              replace hB6 := hB6.ext hk110
              replace hR := hR.ext hk110
              exact ⟨hk110, rfl⟩
            · refine obl_mk rfl (fun w96k vs hE hkn => ?_)
              replace hK := hK.trans (Kp.ext hE)
              replace hB6 := hB6.ext hE
              replace hR := hR.ext hE
              refine obl_t rfl ?_
              refine opk_norm [(42, .bool (power m)), (45, .bool (power c))] ⟨rfl, rfl, trivial⟩ (fun ρq => ?_)
              refine o_pickT (v := .bool (power c)) rfl (h44) rfl ?_
              exact ⟨Kp.refl _ _, rfl⟩
            · refine obl_mk rfl (fun w96k vs hE hkn => ?_)
              replace hK := hK.trans (Kp.ext hE)
              replace hB6 := hB6.ext hE
              replace hR := hR.ext hE
              refine obl_t rfl ?_
              refine opk_norm [(46, .bool (power c))] ⟨rfl, trivial⟩ (fun ρq => ?_)
              refine o_move (v := .bool (power c)) rfl ?_
              exact ⟨Kp.refl _ _, rfl⟩
            · refine obl_mk rfl (fun w96k vs hE hkn => ?_)
              exact obl_f rfl (want_f rfl (h45) (by decide))
            · refine obl_mk rfl (fun w96k vs hE hkn => ?_)
              exact obl_f rfl (want_f rfl (h45) (by decide))
            · refine obl_mk rfl (fun w96k vs hE hkn => ?_)
              exact obl_f rfl (want_f rfl (h45) (by decide))
            · refine obl_mk rfl (fun w96k vs hE hkn => ?_)
              exact obl_f rfl (want_f rfl (h45) (by decide))
            replace hK := hK.trans (Kp.ext hE98)
            replace hB6 := hB6.ext hE98
            replace hR := hR.ext hE98
            refine rl_norm [(47, .bool (power c))] ⟨rfl, trivial⟩ (fun ρr95q => ?_)
            refine rlo ?_ (want_f rfl (h45) (by decide))
            refine rl (o_pickF (v := .bool (false)) rfl (h45) rfl ?_) rfl
            refine rl (o_assign (v := .bool (false)) rfl ?_) rfl
            refine rl_nil ?_
            refine cw_ret ?_
            refine ret_intro (v := .bool (false)) (res_ok (vs := [.bool (false)]) rfl ⟨rfl, trivial⟩) hK ?_
            first | (exact congrArg Value.bool (check_not (by rw [← hall, ok_step hxe]; simp_all)).symm) | (rw [check_of (ok_end hall (by omega))]; simp_all)
        · skip
          have hl_b1_d3 := hB6.lt
          refine cw_norm [(1, .pointer (some ⟨b1, 0, none⟩))] ⟨rfl, trivial⟩ (fun ρr120 => ?_)
          refine cw_drawn [.val (.pointer (some ⟨b1, 0, none⟩)), .val (.int .i64 (b)), .val (.bool (power b)), .val (.bool (power b)), .val (.pointer (some ⟨b1, 1, none⟩)), .val (.int .i64 (m)), .val (.bool (power m)), .val (.bool (power m)), .val (.bool (power m)), .val (undef), .val (undef), .val (undef), .val (.bool (false)), .val (.bool (false)), .val (undef), .val (undef), .val (undef), .val (undef)] [[], [0], [0, 1], [0, 1, 2], [0, 1, 2, 3], [0, 1, 2, 3, 4], [0, 1, 2, 3, 4, 5], [0, 1, 2, 3, 4, 5, 6], [0, 1, 2, 3, 4, 5, 6, 7], [0, 1, 2, 3, 4, 5, 6, 7, 8], [0, 1, 2, 3, 4, 5, 6, 7, 8, 9], [0, 1, 2, 3, 4, 5, 6, 7, 8, 9, 10], [0, 1, 2, 3, 4, 5, 6, 7, 8, 9, 10, 11], [0, 1, 2, 3, 4, 5, 6, 7, 8, 9, 10, 11, 12], [0, 1, 2, 3, 4, 5, 6, 7, 8, 9, 10, 11, 12, 13], [0, 1, 2, 3, 4, 5, 6, 7, 8, 9, 10, 11, 12, 13, 14], [0, 1, 2, 3, 4, 5, 6, 7, 8, 9, 10, 11, 12, 13], [0, 1, 2, 3, 4, 5, 6, 7, 8, 9, 10, 11, 12, 13, 16], [0, 1, 2, 3, 4, 5, 6, 7, 8, 9, 10, 11, 12, 13, 14, 15, 16, 17], [0, 1, 2, 3, 4, 5, 6, 7, 8, 9, 10, 11, 12, 13, 14, 15, 16, 17, 18], [0, 1, 2, 3, 4, 5, 6, 7, 8, 9, 10, 11, 12, 13, 14, 15, 16, 17, 18, 19]] 18 mixed (by kernel_rfl) ⟨trivial, trivial, trivial, trivial, trivial, trivial, trivial, trivial, trivial, trivial, trivial, trivial, trivial, trivial, trivial, trivial, trivial, trivial, trivial⟩ ⟨⟨⟨⟨⟨⟨⟨⟨⟨⟨⟨⟨⟨⟨⟨⟨⟨⟨trivial, ?_⟩, ?_⟩, ?_⟩, ?_⟩, ?_⟩, ?_⟩, ?_⟩, ?_⟩, ?_⟩, ?_⟩, ?_⟩, ?_⟩, ?_⟩, ?_⟩, ?_⟩, ?_⟩, ?_⟩, ?_⟩ (fun w121 vs122 hE123 hkn124 => ?_)
          · refine obl_mk rfl (fun w121k vs hE hkn => ?_)
            replace hK := hK.trans (Kp.ext hE)
            replace hB6 := hB6.ext hE
            replace hR := hR.ext hE
            refine obl_t rfl ?_
            refine opk_norm [(1, .pointer (some ⟨b1, 0, none⟩))] ⟨rfl, trivial⟩ (fun ρq => ?_)
            refine o_field rfl fa32_0 ?_
            exact ⟨Kp.refl _ _, rfl⟩
          · refine obl_mk rfl (fun w121k vs hE hkn => ?_)
            replace hK := hK.trans (Kp.ext hE)
            replace hB6 := hB6.ext hE
            replace hR := hR.ext hE
            refine obl_t rfl ?_
            refine opk_norm [(34, .pointer (some ⟨b1, 0, none⟩))] ⟨rfl, trivial⟩ (fun ρq => ?_)
            refine o_loadB (v := .int .i64 (b)) rfl hB6 tyS3 rfl ?_
            exact ⟨Kp.refl _ _, rfl⟩
          · refine obl_mk rfl (fun w121k vs hE hkn => ?_)
            replace hK := hK.trans (Kp.ext hE)
            replace hB6 := hB6.ext hE
            replace hR := hR.ext hE
            refine obl_t rfl ?_
            refine opk_norm [(35, .int .i64 (b))] ⟨rfl, trivial⟩ (fun ρq => ?_)
            refine o_call (power_ok b _) Tryd.call26 (fun v125 w126 hk127 hv128 => ?_)
            have hl_b1_w126 := hB6.lt
            have hs_w126 := hK.size
            obtain rfl := hv128
            replace hK := hK.trans (Kp.ext hk127)
            replace hB6 := hB6.ext hk127
            replace hR := hR.ext hk127
            exact ⟨hk127, rfl⟩
          · refine obl_mk rfl (fun w121k vs hE hkn => ?_)
            replace hK := hK.trans (Kp.ext hE)
            replace hB6 := hB6.ext hE
            replace hR := hR.ext hE
            refine obl_t rfl ?_
            refine opk_norm [(36, .bool (power b))] ⟨rfl, trivial⟩ (fun ρq => ?_)
            refine o_move (v := .bool (power b)) rfl ?_
            exact ⟨Kp.refl _ _, rfl⟩
          · refine obl_mk rfl (fun w121k vs hE hkn => ?_)
            replace hK := hK.trans (Kp.ext hE)
            replace hB6 := hB6.ext hE
            replace hR := hR.ext hE
            refine obl_t (want_t rfl (h43)) ?_
            refine opk_norm [(1, .pointer (some ⟨b1, 0, none⟩)), (37, .bool (power b))] ⟨rfl, rfl, trivial⟩ (fun ρq => ?_)
            refine o_field rfl fa32_1 ?_
            exact ⟨Kp.refl _ _, rfl⟩
          · refine obl_mk rfl (fun w121k vs hE hkn => ?_)
            replace hK := hK.trans (Kp.ext hE)
            replace hB6 := hB6.ext hE
            replace hR := hR.ext hE
            refine obl_t (want_t rfl (h43)) ?_
            refine opk_norm [(37, .bool (power b)), (38, .pointer (some ⟨b1, 1, none⟩))] ⟨rfl, rfl, trivial⟩ (fun ρq => ?_)
            refine o_loadB (v := .int .i64 (m)) rfl hB6 tyS3 rfl ?_
            exact ⟨Kp.refl _ _, rfl⟩
          · refine obl_mk rfl (fun w121k vs hE hkn => ?_)
            replace hK := hK.trans (Kp.ext hE)
            replace hB6 := hB6.ext hE
            replace hR := hR.ext hE
            refine obl_t (want_t rfl (h43)) ?_
            refine opk_norm [(37, .bool (power b)), (39, .int .i64 (m))] ⟨rfl, rfl, trivial⟩ (fun ρq => ?_)
            refine o_call (power_ok m _) Tryd.call26 (fun v129 w130 hk131 hv132 => ?_)
            have hl_b1_w130 := hB6.lt
            have hs_w130 := hK.size
            obtain rfl := hv132
            replace hK := hK.trans (Kp.ext hk131)
            replace hB6 := hB6.ext hk131
            replace hR := hR.ext hk131
            exact ⟨hk131, rfl⟩
          · refine obl_mk rfl (fun w121k vs hE hkn => ?_)
            replace hK := hK.trans (Kp.ext hE)
            replace hB6 := hB6.ext hE
            replace hR := hR.ext hE
            refine obl_t rfl ?_
            refine opk_norm [(37, .bool (power b)), (40, .bool (power m))] ⟨rfl, rfl, trivial⟩ (fun ρq => ?_)
            refine o_pickT (v := .bool (power m)) rfl (h43) rfl ?_
            exact ⟨Kp.refl _ _, rfl⟩
          · refine obl_mk rfl (fun w121k vs hE hkn => ?_)
            replace hK := hK.trans (Kp.ext hE)
            replace hB6 := hB6.ext hE
            replace hR := hR.ext hE
            refine obl_t rfl ?_
            refine opk_norm [(41, .bool (power m))] ⟨rfl, trivial⟩ (fun ρq => ?_)
            refine o_move (v := .bool (power m)) rfl ?_
            exact ⟨Kp.refl _ _, rfl⟩
          · refine obl_mk rfl (fun w121k vs hE hkn => ?_)
            exact obl_f rfl (want_f rfl (h44) (by decide))
          · refine obl_mk rfl (fun w121k vs hE hkn => ?_)
            exact obl_f rfl (want_f rfl (h44) (by decide))
          · refine obl_mk rfl (fun w121k vs hE hkn => ?_)
            exact obl_f rfl (want_f rfl (h44) (by decide))
          · refine obl_mk rfl (fun w121k vs hE hkn => ?_)
            replace hK := hK.trans (Kp.ext hE)
            replace hB6 := hB6.ext hE
            replace hR := hR.ext hE
            refine obl_t rfl ?_
            refine opk_norm [(42, .bool (power m))] ⟨rfl, trivial⟩ (fun ρq => ?_)
            refine o_pickF (v := .bool (false)) rfl (h44) rfl ?_
            exact ⟨Kp.refl _ _, rfl⟩
          · refine obl_mk rfl (fun w121k vs hE hkn => ?_)
            replace hK := hK.trans (Kp.ext hE)
            replace hB6 := hB6.ext hE
            replace hR := hR.ext hE
            refine obl_t rfl ?_
            refine opk_norm [(46, .bool (false))] ⟨rfl, trivial⟩ (fun ρq => ?_)
            refine o_move (v := .bool (false)) rfl ?_
            exact ⟨Kp.refl _ _, rfl⟩
          · refine obl_mk rfl (fun w121k vs hE hkn => ?_)
            exact obl_f rfl (want_f rfl (rfl) (by decide))
          · refine obl_mk rfl (fun w121k vs hE hkn => ?_)
            exact obl_f rfl (want_f rfl (rfl) (by decide))
          · refine obl_mk rfl (fun w121k vs hE hkn => ?_)
            exact obl_f rfl (want_f rfl (rfl) (by decide))
          · refine obl_mk rfl (fun w121k vs hE hkn => ?_)
            exact obl_f rfl (want_f rfl (rfl) (by decide))
          replace hK := hK.trans (Kp.ext hE123)
          replace hB6 := hB6.ext hE123
          replace hR := hR.ext hE123
          refine rl_norm [(47, .bool (false))] ⟨rfl, trivial⟩ (fun ρr120q => ?_)
          refine rlo ?_ (want_f rfl (rfl) (by decide))
          refine rl (o_pickF (v := .bool (false)) rfl (rfl) rfl ?_) rfl
          refine rl (o_assign (v := .bool (false)) rfl ?_) rfl
          refine rl_nil ?_
          refine cw_ret ?_
          refine ret_intro (v := .bool (false)) (res_ok (vs := [.bool (false)]) rfl ⟨rfl, trivial⟩) hK ?_
          first | (exact congrArg Value.bool (check_not (by rw [← hall, ok_step hxe]; simp_all)).symm) | (rw [check_of (ok_end hall (by omega))]; simp_all)
      · skip
        have hl_b1_d4 := hB6.lt
        refine cw_norm [(1, .pointer (some ⟨b1, 0, none⟩))] ⟨rfl, trivial⟩ (fun ρr137 => ?_)
        refine cw_drawn [.val (.pointer (some ⟨b1, 0, none⟩)), .val (.int .i64 (b)), .val (.bool (power b)), .val (.bool (power b)), .val (undef), .val (undef), .val (undef), .val (.bool (false)), .val (.bool (false)), .val (undef), .val (undef), .val (undef), .val (.bool (false)), .val (.bool (false)), .val (undef), .val (undef), .val (undef), .val (undef)] [[], [0], [0, 1], [0, 1, 2], [0, 1, 2, 3], [0, 1, 2, 3, 4], [0, 1, 2, 3, 4, 5], [0, 1, 2, 3, 4, 5, 6], [0, 1, 2, 3, 4, 5, 6, 7], [0, 1, 2, 3, 4, 5, 6, 7, 8], [0, 1, 2, 3, 4, 5, 6, 7, 8, 9], [0, 1, 2, 3, 4, 5, 6, 7, 8, 9, 10], [0, 1, 2, 3, 4, 5, 6, 7, 8, 9, 10, 11], [0, 1, 2, 3, 4, 5, 6, 7, 8, 9, 10, 11, 12], [0, 1, 2, 3, 4, 5, 6, 7, 8, 9, 10, 11, 12, 13], [0, 1, 2, 3, 4, 5, 6, 7, 8, 9, 10, 11, 12, 13, 14], [0, 1, 2, 3, 4, 5, 6, 7, 8, 9, 10, 11, 12, 13], [0, 1, 2, 3, 4, 5, 6, 7, 8, 9, 10, 11, 12, 13, 16], [0, 1, 2, 3, 4, 5, 6, 7, 8, 9, 10, 11, 12, 13, 14, 15, 16, 17], [0, 1, 2, 3, 4, 5, 6, 7, 8, 9, 10, 11, 12, 13, 14, 15, 16, 17, 18], [0, 1, 2, 3, 4, 5, 6, 7, 8, 9, 10, 11, 12, 13, 14, 15, 16, 17, 18, 19]] 18 mixed (by kernel_rfl) ⟨trivial, trivial, trivial, trivial, trivial, trivial, trivial, trivial, trivial, trivial, trivial, trivial, trivial, trivial, trivial, trivial, trivial, trivial, trivial⟩ ⟨⟨⟨⟨⟨⟨⟨⟨⟨⟨⟨⟨⟨⟨⟨⟨⟨⟨trivial, ?_⟩, ?_⟩, ?_⟩, ?_⟩, ?_⟩, ?_⟩, ?_⟩, ?_⟩, ?_⟩, ?_⟩, ?_⟩, ?_⟩, ?_⟩, ?_⟩, ?_⟩, ?_⟩, ?_⟩, ?_⟩ (fun w138 vs139 hE140 hkn141 => ?_)
        · refine obl_mk rfl (fun w138k vs hE hkn => ?_)
          replace hK := hK.trans (Kp.ext hE)
          replace hB6 := hB6.ext hE
          replace hR := hR.ext hE
          refine obl_t rfl ?_
          refine opk_norm [(1, .pointer (some ⟨b1, 0, none⟩))] ⟨rfl, trivial⟩ (fun ρq => ?_)
          refine o_field rfl fa32_0 ?_
          exact ⟨Kp.refl _ _, rfl⟩
        · refine obl_mk rfl (fun w138k vs hE hkn => ?_)
          replace hK := hK.trans (Kp.ext hE)
          replace hB6 := hB6.ext hE
          replace hR := hR.ext hE
          refine obl_t rfl ?_
          refine opk_norm [(34, .pointer (some ⟨b1, 0, none⟩))] ⟨rfl, trivial⟩ (fun ρq => ?_)
          refine o_loadB (v := .int .i64 (b)) rfl hB6 tyS3 rfl ?_
          exact ⟨Kp.refl _ _, rfl⟩
        · refine obl_mk rfl (fun w138k vs hE hkn => ?_)
          replace hK := hK.trans (Kp.ext hE)
          replace hB6 := hB6.ext hE
          replace hR := hR.ext hE
          refine obl_t rfl ?_
          refine opk_norm [(35, .int .i64 (b))] ⟨rfl, trivial⟩ (fun ρq => ?_)
          refine o_call (power_ok b _) Tryd.call26 (fun v142 w143 hk144 hv145 => ?_)
          have hl_b1_w143 := hB6.lt
          have hs_w143 := hK.size
          obtain rfl := hv145
          replace hK := hK.trans (Kp.ext hk144)
          replace hB6 := hB6.ext hk144
          replace hR := hR.ext hk144
          exact ⟨hk144, rfl⟩
        · refine obl_mk rfl (fun w138k vs hE hkn => ?_)
          replace hK := hK.trans (Kp.ext hE)
          replace hB6 := hB6.ext hE
          replace hR := hR.ext hE
          refine obl_t rfl ?_
          refine opk_norm [(36, .bool (power b))] ⟨rfl, trivial⟩ (fun ρq => ?_)
          refine o_move (v := .bool (power b)) rfl ?_
          exact ⟨Kp.refl _ _, rfl⟩
        · refine obl_mk rfl (fun w138k vs hE hkn => ?_)
          exact obl_f rfl (want_f rfl (h43) (by decide))
        · refine obl_mk rfl (fun w138k vs hE hkn => ?_)
          exact obl_f rfl (want_f rfl (h43) (by decide))
        · refine obl_mk rfl (fun w138k vs hE hkn => ?_)
          exact obl_f rfl (want_f rfl (h43) (by decide))
        · refine obl_mk rfl (fun w138k vs hE hkn => ?_)
          replace hK := hK.trans (Kp.ext hE)
          replace hB6 := hB6.ext hE
          replace hR := hR.ext hE
          refine obl_t rfl ?_
          refine opk_norm [(37, .bool (power b))] ⟨rfl, trivial⟩ (fun ρq => ?_)
          refine o_pickF (v := .bool (false)) rfl (h43) rfl ?_
          exact ⟨Kp.refl _ _, rfl⟩
        · refine obl_mk rfl (fun w138k vs hE hkn => ?_)
          replace hK := hK.trans (Kp.ext hE)
          replace hB6 := hB6.ext hE
          replace hR := hR.ext hE
          refine obl_t rfl ?_
          refine opk_norm [(41, .bool (false))] ⟨rfl, trivial⟩ (fun ρq => ?_)
          refine o_move (v := .bool (false)) rfl ?_
          exact ⟨Kp.refl _ _, rfl⟩
        · refine obl_mk rfl (fun w138k vs hE hkn => ?_)
          exact obl_f rfl (want_f rfl (rfl) (by decide))
        · refine obl_mk rfl (fun w138k vs hE hkn => ?_)
          exact obl_f rfl (want_f rfl (rfl) (by decide))
        · refine obl_mk rfl (fun w138k vs hE hkn => ?_)
          exact obl_f rfl (want_f rfl (rfl) (by decide))
        · refine obl_mk rfl (fun w138k vs hE hkn => ?_)
          replace hK := hK.trans (Kp.ext hE)
          replace hB6 := hB6.ext hE
          replace hR := hR.ext hE
          refine obl_t rfl ?_
          refine opk_norm [(42, .bool (false))] ⟨rfl, trivial⟩ (fun ρq => ?_)
          refine o_pickF (v := .bool (false)) rfl (rfl) rfl ?_
          exact ⟨Kp.refl _ _, rfl⟩
        · refine obl_mk rfl (fun w138k vs hE hkn => ?_)
          replace hK := hK.trans (Kp.ext hE)
          replace hB6 := hB6.ext hE
          replace hR := hR.ext hE
          refine obl_t rfl ?_
          refine opk_norm [(46, .bool (false))] ⟨rfl, trivial⟩ (fun ρq => ?_)
          refine o_move (v := .bool (false)) rfl ?_
          exact ⟨Kp.refl _ _, rfl⟩
        · refine obl_mk rfl (fun w138k vs hE hkn => ?_)
          exact obl_f rfl (want_f rfl (rfl) (by decide))
        · refine obl_mk rfl (fun w138k vs hE hkn => ?_)
          exact obl_f rfl (want_f rfl (rfl) (by decide))
        · refine obl_mk rfl (fun w138k vs hE hkn => ?_)
          exact obl_f rfl (want_f rfl (rfl) (by decide))
        · refine obl_mk rfl (fun w138k vs hE hkn => ?_)
          exact obl_f rfl (want_f rfl (rfl) (by decide))
        replace hK := hK.trans (Kp.ext hE140)
        replace hB6 := hB6.ext hE140
        replace hR := hR.ext hE140
        refine rl_norm [(47, .bool (false))] ⟨rfl, trivial⟩ (fun ρr137q => ?_)
        refine rlo ?_ (want_f rfl (rfl) (by decide))
        refine rl (o_pickF (v := .bool (false)) rfl (rfl) rfl ?_) rfl
        refine rl (o_assign (v := .bool (false)) rfl ?_) rfl
        refine rl_nil ?_
        refine cw_ret ?_
        refine ret_intro (v := .bool (false)) (res_ok (vs := [.bool (false)]) rfl ⟨rfl, trivial⟩) hK ?_
        first | (exact congrArg Value.bool (check_not (by rw [← hall, ok_step hxe]; simp_all)).symm) | (rw [check_of (ok_end hall (by omega))]; simp_all)

theorem has_ok {F : Nat → Prop} (b m c : Int) (ao : Option Addr) (cp : Nat) (ps : List Permit) (car : Int) (n : Nat) (w : World) (hl_n : n = ps.length) (hn : n ≤ 1000000) (hR : Rd F w 2 (.slice ao n cp) (ps.map encP)) :
    Calls Tryd.prog 21 #[.agg #[.int .i64 (b), .int .i64 (m), .int .i64 (c), .slice ao n cp], .int .i64 (car)] w (Ret Non w fun v w' => v = .tuple #[.agg #[.int .i64 (oneOf (fun p : Permit => decide (p.car = car)) ps).car, .int .i64 (oneOf (fun p : Permit => decide (p.car = car)) ps).peak], .bool (decide (0 ≤ idxOf (fun p : Permit => decide (p.car = car)) ps))]) := by
  have hK := Kp.refl Non w
  subst hl_n
  replace hR := hR.old
  refine calls_cw Tryd.func21 rfl (Nat.le_of_ble_eq_true rfl) ?_
  refine cw_reg rfl ?_
  refine rl (o_box (v := .agg #[.int .i64 (b), .int .i64 (m), .int .i64 (c), .slice ao ps.length cp]) rfl (fun b1 w2 hb3 hz4 hk5 hB6 => ?_)) rfl
  replace hB6 : Box w2 b1 [.int .i64 (b), .int .i64 (m), .int .i64 (c), .slice ao ps.length cp] 32 := hB6
  have hs_b1 := hK.size
  replace hK := hK.trans (Kp.ext hk5)
  replace hR := hR.ext hk5
  refine rl (o_alloc Tryd.zeroValue57 (fun b7 w8 hb9 hz10 hk11 hB12 => ?_)) rfl
  replace hB12 : Box w8 b7 [.int .i64 (0), .int .i64 (0)] 57 := hB12
  have hs_b7 := hK.size
  have hl_b1_b7 := hB6.lt
  replace hK := hK.trans (Kp.ext hk11)
  replace hB6 := hB6.ext hk11
  replace hR := hR.ext hk11
  refine rl (o_assign (v := .bool (false)) rfl ?_) rfl
  refine rl_nil ?_
  refine cw_reg rfl ?_
  refine rl (o_loadBA (ds := [.int .i64 (b), .int .i64 (m), .int .i64 (c), .slice ao ps.length cp]) rfl hB6 tyA32 rfl rfl ?_) rfl
  refine rl (o_move (v := .int .i64 (car)) rfl ?_) rfl
  refine rl (o_call (lat_ok b m c ao cp ps car _ _ rfl hn hR) Tryd.call34 (fun v13 w14 hk15 hv16 => ?_)) rfl
  have hl_b1_w14 := hB6.lt
  have hl_b7_w14 := hB12.lt
  have hs_w14 := hK.size
  obtain rfl := hv16
  replace hK := hK.trans (Kp.ext hk15)
  replace hB6 := hB6.ext hk15
  replace hB12 := hB12.ext hk15
  replace hR := hR.ext hk15
  refine rl (o_assign (v := .int .i64 (idxOf (fun p : Permit => decide (p.car = car)) ps)) rfl ?_) rfl
  refine rl_nil ?_
  refine cw_seq ?_
  refine cw_reg rfl ?_
  refine rl (o_move (v := .int .i64 (idxOf (fun p : Permit => decide (p.car = car)) ps)) rfl ?_) rfl
  refine rl (o_lss rfl rfl ?_) rfl
  refine rl_nil ?_
  refine cw_if rfl (fun h17 => ?_) (fun h17 => ?_)
  · skip
    refine cw_reg rfl ?_
    refine rl (o_build (cs := [.int .i64 (0), .int .i64 (0)]) bt57 rfl ?_) rfl
    refine rl0 (o_storeA (vs := [.int .i64 (0), .int .i64 (0)]) rfl rfl hB12 tyA57 rfl rfl (Nat.le_of_ble_eq_true rfl) (fun w18 hk19 hz20 hB21 => ?_)) rfl
    replace hB21 : Box w18 b7 [.int .i64 (0), .int .i64 (0)] 57 := hB21
    replace hK := hK.later hk19 (fun i hi hS => by have h1 : i = b7 := hS; omega)
    replace hB6 := hB6.kp hk19 (by show ¬ b1 = b7; omega)
    replace hR := hR.kp hk19 (fun i _ hF hS => by have h1 : i < w.heap.size := hF; have h2 : i = b7 := hS; omega)
    replace hB12 := hB21
    refine rl (o_assign (v := .bool (false)) rfl ?_) rfl
    refine rl_nil ?_
    refine cw_ret ?_
    refine k_tr ?_
    refine ret_intro (v := .tuple #[.agg #[.int .i64 (0), .int .i64 (0)], .bool (false)]) (res_ok (vs := [.agg #[.int .i64 (0), .int .i64 (0)], .bool (false)]) rfl ⟨⟨_, rfl, run_loadA tyA57 rfl (hB12.at_ 0 2)⟩, rfl, trivial⟩) hK ?_
    have hnn := idxOf_none (p := fun p : Permit => decide (p.car = car)) (l := ps) (by assumption)
    simp [oneOf, hnn]; omega
  · skip
    obtain ⟨x0, hx0, hf0, hl0, hz0⟩ := idxOf_get (p := fun p : Permit => decide (p.car = car)) (l := ps) (by assumption)
    refine cw_skip ?_
    refine k_tn ?_
    refine cw_reg rfl ?_
    refine rl (o_field rfl fa32_3 ?_) rfl
    refine rl (o_loadB (v := .slice ao ps.length cp) rfl hB6 tyS30 rfl ?_) rfl
    refine rl (o_move (v := .int .i64 (idxOf (fun p : Permit => decide (p.car = car)) ps)) rfl ?_) rfl
    refine rl (o_idxM (i := idxOf (fun p : Permit => decide (p.car = car)) ps) (f := encP) (xs := ps) rfl rfl Tryd.underlying30 Tryd.sizeOf57 hR (by omega) (by omega) (fun b22 o23 x24 hx25 hF26 hA27 => ?_)) rfl
    obtain rfl : x24 = x0 := by simpa [hx0] using hx25.symm
    refine rl (o_loadA (cs := [.int .i64 (x24.car), .int .i64 (x24.peak)]) rfl tyA57 rfl hA27 ?_) rfl
    refine rl0 (o_storeA (vs := [.int .i64 (x24.car), .int .i64 (x24.peak)]) rfl rfl hB12 tyA57 rfl rfl (Nat.le_of_ble_eq_true rfl) (fun w28 hk29 hz30 hB31 => ?_)) rfl
    replace hB31 : Box w28 b7 [.int .i64 (x24.car), .int .i64 (x24.peak)] 57 := hB31
    replace hK := hK.later hk29 (fun i hi hS => by have h1 : i = b7 := hS; omega)
    replace hB6 := hB6.kp hk29 (by show ¬ b1 = b7; omega)
    replace hR := hR.kp hk29 (fun i _ hF hS => by have h1 : i < w.heap.size := hF; have h2 : i = b7 := hS; omega)
    replace hB12 := hB31
    refine rl (o_assign (v := .bool (true)) rfl ?_) rfl
    refine rl_nil ?_
    refine cw_ret ?_
    refine ret_intro (v := .tuple #[.agg #[.int .i64 (x24.car), .int .i64 (x24.peak)], .bool (true)]) (res_ok (vs := [.agg #[.int .i64 (x24.car), .int .i64 (x24.peak)], .bool (true)]) rfl ⟨⟨_, rfl, run_loadA tyA57 rfl (hB12.at_ 0 2)⟩, rfl, trivial⟩) hK ?_
    simp [oneOf, hf0]; exact hz0
end Go.Proofs.YtcmlklnelipacaaDoor

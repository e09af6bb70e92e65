import Derived.Test.YtcmlklnelipacaaDoorLaw1
set_option linter.unusedVariables false
set_option linter.unusedSimpArgs false
set_option maxRecDepth 100000
namespace Go.Proofs.YtcmlklnelipacaaDoor
open Go.RowKit Plain
theorem bt27 : StructTy Tryd.prog 27 [.slice none 0 0, .slice none 0 0, .int .i64 (0), .slice none 0 0, .bool (false)] #[(0, 2), (2, 1), (3, 1), (4, 1)] := ⟨Tryd.zeroValue27, ⟨_, Tryd.underlying27, fun w => by simp [Tryd.sizeOf24, Tryd.sizeOf25, Tryd.sizeOf3, Tryd.sizeOf4]⟩⟩
theorem tyA27 : TyA Tryd.prog 27 5 := ⟨Tryd.isAgg27, Tryd.sizeOf27⟩
theorem o_buildArr {P : Program} {ρ : Env} {w : World} {K : Value → World → Prop} {dst : Option Tmp} {ty : TypeId} {pos : String} {aft : Array Edge} {gd : Option (Nat × Bool)} {t e : TypeId} {n k : Nat} {z vs : List Value} {l : List (Nat × Operand)} (hz : ∀ w, (zeroValue t).run P w = .ok (.agg z.toArray) w) (hu : P.underlying t = some (.array n e)) (hs : ∀ w, (sizeOf e).run P w = .ok k w)
    (hv : l.map (fun p => (p.1, ev ρ p.2)) = enumV 0 vs) (hall : vs.all (fun v => v.cells.size == k) = true) (hlen : vs.length * k = z.length) (hk : K (.agg (vs.flatMap fun v => v.cells.toList).toArray) w) :
    OpK P ⟨dst, .build t l.toArray, ty, pos, aft, gd⟩ ρ w K := by
  have hu' : (underlying t).run P w = .ok (.array n e) w := by simp [underlying, hu]
  have hf := fill_enum vs 0 z hall (by rw [Nat.zero_add, hlen]; exact Nat.le_refl _)
  simp only [Nat.zero_mul, List.take_zero, List.nil_append, Nat.zero_add, hlen, List.drop_length, List.append_nil] at hf
  have hff : Instr.fill (fun i => some (i * k, k)) z.toArray (l.map fun p => (p.1, ev ρ p.2)) = some (vs.flatMap fun v => v.cells.toList).toArray := by rw [hv]; exact hf
  have emap : (l.map fun (p : Nat × Operand) => match p with | (i, x) => (i, ev ρ x)) = (l.map fun p => (p.1, ev ρ p.2)) := by
    apply List.map_congr_left; intro p _; rfl
  simp only [OpK, execOp, Instr.build]
  simp only [Sem.run_bind, hz w, Result.andThen, hu', Value.cells, hs w]
  simp only [List.map_toArray, emap]
  simp only [hff, Sem.run_pure, OpU]
  exact hk
theorem from_ok {F0 F1 : Nat → Prop} (a0 a1 : Option Addr) (p0 p1 : Nat) (s0 s1 : List Int) (n0 : Nat) (n1 : Nat) (w : World) (hl_n1 : n1 = s1.length) (hl_n0 : n0 = s0.length) (hn0 : n0 ≤ 1000000) (hn1 : n1 ≤ 1000000) (hR0 : Rd F0 w 1 (.slice a0 n0 p0) (s0.map encB)) (hR1 : Rd F1 w 1 (.slice a1 n1 p1) (s1.map encB)) :
    Calls Tryd.prog 7 #[.slice a0 n0 p0, .slice a1 n1 p1] w (Ret Non w fun v w' => ∃ (ao3 ao4 : Option Addr) (c3 c4 : Nat), v = .agg #[.slice ao3 s0.length c3, .slice ao4 s1.length c4, .int .i64 0, .slice none 0 0, .bool false] ∧ Rd (fun b => w.heap.size ≤ b) w' 1 (.slice ao3 s0.length c3) (s0.map encB) ∧ Rd (fun b => w.heap.size ≤ b) w' 1 (.slice ao4 s1.length c4) (s1.map encB)) := by
  have hK := Kp.refl Non w
  subst hl_n0
  subst hl_n1
  replace hR0 := hR0.old
  replace hR1 := hR1.old
  refine calls_cw Tryd.func7 rfl (Nat.le_of_ble_eq_true rfl) ?_
  refine cw_reg rfl ?_
  refine rl (o_alloc Tryd.zeroValue27 (fun b1 w2 hb3 hz4 hk5 hB6 => ?_)) rfl
  replace hB6 : Box w2 b1 [.slice none 0 0, .slice none 0 0, .int .i64 (0), .slice none 0 0, .bool (false)] 27 := hB6
  have hs_b1 := hK.size
  replace hK := hK.trans (Kp.ext hk5)
  replace hR0 := hR0.ext hk5
  replace hR1 := hR1.ext hk5
  refine rl_nil ?_
  refine cw_reg rfl ?_
  refine rl (o_move (v := .slice a0 s0.length p0) rfl ?_) rfl
  refine rl (o_call (clone_ok _ _ s0 _ _ rfl (by omega) hR0) Tryd.call22 (fun v7 w8 hk9 hv10 => ?_)) rfl
  have hl_b1_w8 := hB6.lt
  have hs_w8 := hK.size
  obtain ⟨n3, ao3, c3, rfl, hn3x, hO3⟩ := hv10
  replace hK := hK.trans (Kp.ext hk9)
  replace hB6 := hB6.ext hk9
  replace hR0 := hR0.ext hk9
  replace hR1 := hR1.ext hk9
  subst hn3x
  have hS0 := Rd.of_ownF hO3 (fun _ => rfl) rfl
  clear hO3
  replace hS0 := hS0.mono (G := fun b => w2.heap.size ≤ b ∧ b < w8.heap.size) (fun b hb h => ⟨h, hb⟩)
  have hTr_w8 := Kp.refl (fun _ => True) w8
  refine rl (o_move (v := .slice a1 s1.length p1) rfl ?_) rfl
  refine rl (o_call (clone_ok _ _ s1 _ _ rfl (by omega) hR1) Tryd.call22 (fun v11 w12 hk13 hv14 => ?_)) rfl
  have hl_b1_w12 := hB6.lt
  have hs_w12 := hK.size
  obtain ⟨n4, ao4, c4, rfl, hn4x, hO4⟩ := hv14
  replace hK := hK.trans (Kp.ext hk13)
  replace hB6 := hB6.ext hk13
  replace hR0 := hR0.ext hk13
  replace hR1 := hR1.ext hk13
  replace hS0 := hS0.ext hk13
  replace hTr_w8 := hTr_w8.trans (Kp.ext hk13)
  subst hn4x
  have hS1 := Rd.of_ownF hO4 (fun _ => rfl) rfl
  clear hO4
  replace hS1 := hS1.mono (G := fun b => w8.heap.size ≤ b ∧ b < w12.heap.size) (fun b hb h => ⟨h, hb⟩)
  have hTr_w12 := Kp.refl (fun _ => True) w12
  refine rl (o_buildArr (vs := [.slice ao3 s0.length c3, .slice ao4 s1.length c4]) Tryd.zeroValue25 Tryd.underlying25 Tryd.sizeOf24 rfl rfl rfl ?_) rfl
  refine rl (o_build (cs := [.slice ao3 s0.length c3, .slice ao4 s1.length c4, .int .i64 (0), .slice none 0 0, .bool (false)]) bt27 rfl ?_) rfl
  refine rl0 (o_storeA (vs := [.slice ao3 s0.length c3, .slice ao4 s1.length c4, .int .i64 (0), .slice none 0 0, .bool (false)]) rfl rfl hB6 tyA27 rfl rfl (Nat.le_of_ble_eq_true rfl) (fun w15 hk16 hz17 hB18 => ?_)) rfl
  replace hB18 : Box w15 b1 [.slice ao3 s0.length c3, .slice ao4 s1.length c4, .int .i64 (0), .slice none 0 0, .bool (false)] 27 := hB18
  replace hK := hK.later hk16 (fun i hi hS => by have h1 : i = b1 := hS; omega)
  replace hR0 := hR0.kp hk16 (fun i _ hF hS => by have h1 : i < w.heap.size := hF; have h2 : i = b1 := hS; omega)
  replace hR1 := hR1.kp hk16 (fun i _ hF hS => by have h1 : i < w.heap.size := hF; have h2 : i = b1 := hS; omega)
  replace hS0 := hS0.kp hk16 (fun i _ hF hS => by have h1 : w2.heap.size ≤ i ∧ i < w8.heap.size := hF; have h2 : i = b1 := hS; omega)
  replace hTr_w8 := hTr_w8.trans (hk16.mono (fun _ _ _ => trivial))
  replace hS1 := hS1.kp hk16 (fun i _ hF hS => by have h1 : w8.heap.size ≤ i ∧ i < w12.heap.size := hF; have h2 : i = b1 := hS; omega)
  replace hTr_w12 := hTr_w12.trans (hk16.mono (fun _ _ _ => trivial))
  replace hB6 := hB18
  refine rl_nil ?_
  refine cw_ret ?_
  refine ret_intro (v := .agg #[.slice ao3 s0.length c3, .slice ao4 s1.length c4, .int .i64 (0), .slice none 0 0, .bool (false)]) (res_ok (vs := [.agg #[.slice ao3 s0.length c3, .slice ao4 s1.length c4, .int .i64 (0), .slice none 0 0, .bool (false)]]) rfl ⟨⟨_, rfl, run_loadA tyA27 rfl (hB6.at_ 0 5)⟩, trivial⟩) hK ?_
  exact ⟨ao3, ao4, c3, c4, rfl, hS0.mono (fun b _ h => by have h1 : w2.heap.size ≤ b ∧ b < w8.heap.size := h; omega), hS1.mono (fun b _ h => by have h1 : w8.heap.size ≤ b ∧ b < w12.heap.size := h; omega)⟩
end Go.Proofs.YtcmlklnelipacaaDoor

import Derived.Test.YtcmlklnelipacaaDoorJget
set_option linter.unusedVariables false
set_option linter.unusedSimpArgs false
set_option maxRecDepth 100000
namespace Go.Proofs.YtcmlklnelipacaaDoor
open Go.RowKit Plain
theorem fa27_0 : FieldAt Tryd.prog 27 0 0 := fun a w => by
  simp [Instr.fieldAt, Instr.sureAddr, fieldPlace, Tryd.runUnderlying27, Tryd.sizeOf25]
theorem tyA25 : TyA Tryd.prog 25 2 := ⟨Tryd.isAgg25, Tryd.sizeOf25⟩
section ops
variable {P : Program} {ρ : Env} {w : World} {K : Value → World → Prop} {dst : Option Tmp} {ty : TypeId} {pos : String} {aft : Array Edge} {gd : Option (Nat × Bool)}
theorem o_indexV {t e : TypeId} {n : Nat} {x y : Operand} {kk : IntKind} {cs : List Value} {v : Value} (i : Nat) (hx : ev ρ x = .agg cs.toArray) (hy : ev ρ y = .int kk (i : Int)) (ht : P.underlying t = some (.array n e)) (hs : TyS P e) (hi : i < n) (hv : cs[i]? = some v) (hk : K v w) :
    OpK P ⟨dst, .index t x y, ty, pos, aft, gd⟩ ρ w K := by
  have hu : (underlying t).run P w = .ok (.array n e) w := by simp [underlying, ht]
  have h0 : (0 : Int) ≤ (i : Int) := by omega
  have h1 : (i : Int) < (n : Int) := by omega
  have hv' : cs.toArray[i]? = some v := by simpa using hv
  simp only [OpK, execOp, hx, hy]
  simp [Instr.index, asIntOf, hu, hi, hs.size, part, hs.agg, hv', hv, OpU]
  exact hk
end ops
theorem jstep_t {i : Int} {b : List Int} {l : Ledger} {m : Int} (h1 : (jget crcOf b).2.2 = 0) (h2 : (jget crcOf b).2.1 % 2 = i) (h3 : m < (jget crcOf b).2.1) : jstep crcOf i b (l, m) = ((jget crcOf b).1, (jget crcOf b).2.1) := by
  unfold jstep; exact if_pos ⟨h1, h2, h3⟩
theorem jstep_f {i : Int} {b : List Int} {l : Ledger} {m : Int} (h : ¬ ((jget crcOf b).2.2 = 0 ∧ (jget crcOf b).2.1 % 2 = i ∧ m < (jget crcOf b).2.1)) : jstep crcOf i b (l, m) = (l, m) := by
  unfold jstep; exact if_neg h
theorem jget_seq {xs : List Int} (hB : isB xs) : 0 ≤ (jget crcOf xs).2.1 ∧ (jget crcOf xs).2.1 ≤ 18446744073709551615 := by
  cases h : opn crcOf xs with
  | none => rw [jget_none1 h]; decide
  | some ds =>
    have hBd : isB ds := opn_some h ▸ isB_take hB _
    cases h2 : Plain.part (ds.length + 1) ds with
    | none => rw [jget_none2 h h2]; decide
    | some rs =>
      unfold jget
      rw [h]; simp only []; rw [h2]
      match rs, h2 with
      | [], _ => exact (show (0 : Int) ≤ 0 ∧ (0 : Int) ≤ 18446744073709551615 by decide)
      | [_], _ => exact (show (0 : Int) ≤ 0 ∧ (0 : Int) ≤ 18446744073709551615 by decide)
      | [_, _], _ => exact (show (0 : Int) ≤ 0 ∧ (0 : Int) ≤ 18446744073709551615 by decide)
      | _ :: _ :: _ :: _ :: _, _ => exact (show (0 : Int) ≤ 0 ∧ (0 : Int) ≤ 18446744073709551615 by decide)
      | [r0, r1, r2], h2 =>
        have hb0 : isB r0 := isB_part _ _ _ h2 hBd r0 (by simp)
        have key : 0 ≤ (nums 8 r0).getD 0 0 ∧ (nums 8 r0).getD 0 0 ≤ 18446744073709551615 := by
          cases hn : nums 8 r0 with
          | nil => simp
          | cons x t =>
            have := nums_bound (n := 8) hb0 x (by rw [hn]; simp)
            have hp : ((256 ^ 8 : Nat) : Int) = 18446744073709551616 := by decide
            rw [hp] at this
            simp; omega
        simp only []
        split
        · split
          · exact key
          · exact (show (0 : Int) ≤ 0 ∧ (0 : Int) ≤ 18446744073709551615 by decide)
        · exact (show (0 : Int) ≤ 0 ∧ (0 : Int) ≤ 18446744073709551615 by decide)
set_option maxHeartbeats 8000000 in
theorem jload_ok {F0 F1 Fw : Nat → Prop} (a0 a1 aw : Option Addr) (p0 p1 pw : Nat) (s0 s1 wa : List Int) (la : Int) (wr : Bool) (n0 : Nat) (n1 : Nat) (nw : Nat) (w : World) (hl_nw : nw = wa.length) (hl_n1 : n1 = s1.length) (hl_n0 : n0 = s0.length) (hn0 : n0 ≤ 1000000) (hn1 : n1 ≤ 1000000) (hB0 : isB s0) (hB1 : isB s1) (hT : Tab w) (hR0 : Rd F0 w 1 (.slice a0 n0 p0) (s0.map encB)) (hR1 : Rd F1 w 1 (.slice a1 n1 p1) (s1.map encB)) :
    Calls Tryd.prog 12 #[.agg #[.slice a0 n0 p0, .slice a1 n1 p1, .int .i64 (la), .slice aw nw pw, .bool (wr)]] w (Ret Non w fun v w' => ∃ (n : Nat) (ao2 : Option Addr) (c2 : Nat), v = .tuple #[.agg #[.int .i64 (jload crcOf ⟨s0, s1, la, wa, wr⟩).1.budget, .int .i64 (jload crcOf ⟨s0, s1, la, wa, wr⟩).1.margin, .int .i64 (jload crcOf ⟨s0, s1, la, wa, wr⟩).1.credit, .slice ao2 n c2], .int .u64 (jload crcOf ⟨s0, s1, la, wa, wr⟩).2, .bool (decide (0 < (jload crcOf ⟨s0, s1, la, wa, wr⟩).2))] ∧ n = (jload crcOf ⟨s0, s1, la, wa, wr⟩).1.l.length ∧ Rd (fun b => w.heap.size ≤ b) w' 2 (.slice ao2 n c2) ((jload crcOf ⟨s0, s1, la, wa, wr⟩).1.l.map encP)) := by
  have hK := Kp.refl Non w
  subst hl_n0
  subst hl_n1
  subst hl_nw
  replace hR0 := hR0.old
  replace hR1 := hR1.old
  have h00 := hT.1
  have hq0 := jget_seq hB0
  have hq1 := jget_seq hB1
  refine calls_cw Tryd.func12 rfl (Nat.le_of_ble_eq_true rfl) ?_
  refine cw_seq ?_
  refine cw_region rfl ?_
  refine rl (o_box (v := .agg #[.slice a0 s0.length p0, .slice a1 s1.length p1, .int .i64 (la), .slice aw wa.length pw, .bool (wr)]) rfl (fun b1 w2 hb3 hz4 hk5 hB6 => ?_)) rfl
  replace hB6 : Box w2 b1 [.slice a0 s0.length p0, .slice a1 s1.length p1, .int .i64 (la), .slice aw wa.length pw, .bool (wr)] 27 := hB6
  have hs_b1 := hK.size
  replace hK := hK.trans (Kp.ext hk5)
  replace hT := hT.ext hk5
  replace hR0 := hR0.ext hk5
  replace hR1 := hR1.ext hk5
  refine rl (o_alloc Tryd.zeroValue32 (fun b7 w8 hb9 hz10 hk11 hB12 => ?_)) rfl
  replace hB12 : Box w8 b7 [.int .i64 (0), .int .i64 (0), .int .i64 (0), .slice none 0 0] 32 := hB12
  have hs_b7 := hK.size
  have hl_b1_b7 := hB6.lt
  replace hK := hK.trans (Kp.ext hk11)
  replace hB6 := hB6.ext hk11
  replace hT := hT.ext hk11
  replace hR0 := hR0.ext hk11
  replace hR1 := hR1.ext hk11
  refine rl (o_assign (v := .int .u64 (0)) rfl ?_) rfl
  refine rl (o_assign (v := .bool (false)) rfl ?_) rfl
  refine rl_nil ?_
  refine k_tn ?_
  refine cw_norm [(1, .pointer (some ⟨b1, 0, none⟩)), (2, .pointer (some ⟨b7, 0, none⟩))] ⟨rfl, rfl, trivial⟩ (fun ρn13 => ?_)
  refine cw_seq ?_
  refine cw_region rfl ?_
  refine rl (o_alloc Tryd.zeroValue32 (fun b14 w15 hb16 hz17 hk18 hB19 => ?_)) rfl
  replace hB19 : Box w15 b14 [.int .i64 (0), .int .i64 (0), .int .i64 (0), .slice none 0 0] 32 := hB19
  have hs_b14 := hK.size
  have hl_b1_b14 := hB6.lt
  have hl_b7_b14 := hB12.lt
  replace hK := hK.trans (Kp.ext hk18)
  replace hB6 := hB6.ext hk18
  replace hB12 := hB12.ext hk18
  replace hT := hT.ext hk18
  replace hR0 := hR0.ext hk18
  replace hR1 := hR1.ext hk18
  refine rl_nil ?_
  refine k_tn ?_
  refine cw_norm [(1, .pointer (some ⟨b1, 0, none⟩)), (2, .pointer (some ⟨b7, 0, none⟩)), (5, .pointer (some ⟨b14, 0, none⟩))] ⟨rfl, rfl, rfl, trivial⟩ (fun ρn20 => ?_)
  refine cw_seq ?_
  refine cw_region rfl ?_
  refine rl (o_assign (v := .int .u64 (0)) rfl ?_) rfl
  refine rl_nil ?_
  refine k_tn ?_
  refine cw_norm [(1, .pointer (some ⟨b1, 0, none⟩)), (2, .pointer (some ⟨b7, 0, none⟩)), (5, .pointer (some ⟨b14, 0, none⟩)), (6, .int .u64 (0))] ⟨rfl, rfl, rfl, rfl, trivial⟩ (fun ρn21 => ?_)
  refine cw_seq ?_
  refine cw_seq ?_
  refine cw_region rfl ?_
  refine rl (o_field rfl fa27_0 ?_) rfl
  refine rl (o_loadBA (ds := [.slice a0 s0.length p0, .slice a1 s1.length p1]) rfl hB6 tyA25 rfl rfl ?_) rfl
  refine rl (o_move (v := .int .i64 (0)) rfl ?_) rfl
  refine rl_nil ?_
  refine k_tn ?_
  refine cw_norm [(2, .pointer (some ⟨b7, 0, none⟩)), (5, .pointer (some ⟨b14, 0, none⟩)), (6, .int .u64 (0)), (13, .agg #[.slice a0 s0.length p0, .slice a1 s1.length p1]), (14, .int .i64 (0))] ⟨rfl, rfl, rfl, rfl, rfl, trivial⟩ (fun ρn22 => ?_)
  refine cw_block ?_
  refine cw_unroll ?_
  refine cw_seq ?_
  refine cw_region rfl ?_
  refine rl (o_lss rfl rfl ?_) rfl
  refine rl_nil ?_
  refine k_tn ?_
  refine cw_norm [(2, .pointer (some ⟨b7, 0, none⟩)), (5, .pointer (some ⟨b14, 0, none⟩)), (6, .int .u64 (0)), (13, .agg #[.slice a0 s0.length p0, .slice a1 s1.length p1]), (14, .int .i64 (0)), (15, .bool (true))] ⟨rfl, rfl, rfl, rfl, rfl, rfl, trivial⟩ (fun ρn23 => ?_)
  refine cw_seq ?_
  refine cw_condT rfl ?_
  refine cw_skip ?_
  refine k_tn ?_
  refine cw_norm [(2, .pointer (some ⟨b7, 0, none⟩)), (5, .pointer (some ⟨b14, 0, none⟩)), (6, .int .u64 (0)), (13, .agg #[.slice a0 s0.length p0, .slice a1 s1.length p1]), (14, .int .i64 (0))] ⟨rfl, rfl, rfl, rfl, rfl, trivial⟩ (fun ρn24 => ?_)
  refine cw_seq ?_
  refine cw_block ?_
  refine cw_seq ?_
  refine cw_region rfl ?_
  refine rl (o_move (v := .int .i64 (0)) rfl ?_) rfl
  refine rl (o_indexV (cs := [.slice a0 s0.length p0, .slice a1 s1.length p1]) (v := .slice a0 s0.length p0) 0 rfl rfl Tryd.underlying25 tyS24 (by decide) rfl ?_) rfl
  refine rl (o_assign (v := .int .i64 (0)) rfl ?_) rfl
  refine rl (o_assign (v := .slice a0 s0.length p0) rfl ?_) rfl
  refine rl_nil ?_
  refine k_tn ?_
  refine cw_norm [(2, .pointer (some ⟨b7, 0, none⟩)), (5, .pointer (some ⟨b14, 0, none⟩)), (6, .int .u64 (0)), (7, .int .i64 (0)), (8, .slice a0 s0.length p0), (13, .agg #[.slice a0 s0.length p0, .slice a1 s1.length p1]), (14, .int .i64 (0))] ⟨rfl, rfl, rfl, rfl, rfl, rfl, rfl, trivial⟩ (fun ρn25 => ?_)
  refine cw_seq ?_
  refine cw_region rfl ?_
  refine rl (o_move (v := .slice a0 s0.length p0) rfl ?_) rfl
  refine rl (o_call (jget_ok a0 p0 s0 _ _ rfl hn0 hB0 hT hR0) Tryd.call27 (fun v26 w27 hk28 hv29 => ?_)) rfl
  have hl_b1_w27 := hB6.lt
  have hl_b7_w27 := hB12.lt
  have hl_b14_w27 := hB19.lt
  have hs_w27 := hK.size
  obtain ⟨nG0, aoG0, cG0, rfl, hnG0, hG0⟩ := hv29
  replace hK := hK.trans (Kp.ext hk28)
  replace hB6 := hB6.ext hk28
  replace hB12 := hB12.ext hk28
  replace hB19 := hB19.ext hk28
  replace hT := hT.ext hk28
  replace hR0 := hR0.ext hk28
  replace hR1 := hR1.ext hk28
  subst hnG0
  replace hG0 := hG0.mono (G := fun b => w15.heap.size ≤ b ∧ b < w27.heap.size) (fun b hb h => ⟨h, hb⟩)
  have hTr_w27 := Kp.refl (fun _ => True) w27
  refine rl (o_move (v := .tuple #[.agg #[.int .i64 ((jget crcOf s0).1.budget), .int .i64 ((jget crcOf s0).1.margin), .int .i64 ((jget crcOf s0).1.credit), .slice aoG0 ((jget crcOf s0).1.l.length) cG0], .int .u64 ((jget crcOf s0).2.1), .int .i64 ((jget crcOf s0).2.2)]) rfl ?_) rfl
  refine rl (o_extract (vs := [.agg #[.int .i64 ((jget crcOf s0).1.budget), .int .i64 ((jget crcOf s0).1.margin), .int .i64 ((jget crcOf s0).1.credit), .slice aoG0 ((jget crcOf s0).1.l.length) cG0], .int .u64 ((jget crcOf s0).2.1), .int .i64 ((jget crcOf s0).2.2)]) (v := .agg #[.int .i64 ((jget crcOf s0).1.budget), .int .i64 ((jget crcOf s0).1.margin), .int .i64 ((jget crcOf s0).1.credit), .slice aoG0 ((jget crcOf s0).1.l.length) cG0]) rfl rfl ?_) rfl
  refine rl (o_extract (vs := [.agg #[.int .i64 ((jget crcOf s0).1.budget), .int .i64 ((jget crcOf s0).1.margin), .int .i64 ((jget crcOf s0).1.credit), .slice aoG0 ((jget crcOf s0).1.l.length) cG0], .int .u64 ((jget crcOf s0).2.1), .int .i64 ((jget crcOf s0).2.2)]) (v := .int .u64 ((jget crcOf s0).2.1)) rfl rfl ?_) rfl
  refine rl (o_extract (vs := [.agg #[.int .i64 ((jget crcOf s0).1.budget), .int .i64 ((jget crcOf s0).1.margin), .int .i64 ((jget crcOf s0).1.credit), .slice aoG0 ((jget crcOf s0).1.l.length) cG0], .int .u64 ((jget crcOf s0).2.1), .int .i64 ((jget crcOf s0).2.2)]) (v := .int .i64 ((jget crcOf s0).2.2)) rfl rfl ?_) rfl
  refine rl (o_alloc Tryd.zeroValue32 (fun b30 w31 hb32 hz33 hk34 hB35 => ?_)) rfl
  replace hB35 : Box w31 b30 [.int .i64 (0), .int .i64 (0), .int .i64 (0), .slice none 0 0] 32 := hB35
  have hs_b30 := hK.size
  have hl_b1_b30 := hB6.lt
  have hl_b7_b30 := hB12.lt
  have hl_b14_b30 := hB19.lt
  have ht_hTr_w27_b30 := hTr_w27.size
  replace hK := hK.trans (Kp.ext hk34)
  replace hB6 := hB6.ext hk34
  replace hB12 := hB12.ext hk34
  replace hB19 := hB19.ext hk34
  replace hT := hT.ext hk34
  replace hR0 := hR0.ext hk34
  replace hR1 := hR1.ext hk34
  replace hG0 := hG0.ext hk34
  replace hTr_w27 := hTr_w27.trans (Kp.ext hk34)
  refine rl0 (o_storeA (vs := [.int .i64 ((jget crcOf s0).1.budget), .int .i64 ((jget crcOf s0).1.margin), .int .i64 ((jget crcOf s0).1.credit), .slice aoG0 ((jget crcOf s0).1.l.length) cG0]) rfl rfl hB35 tyA32 rfl rfl (Nat.le_of_ble_eq_true rfl) (fun w36 hk37 hz38 hB39 => ?_)) rfl
  replace hB39 : Box w36 b30 [.int .i64 ((jget crcOf s0).1.budget), .int .i64 ((jget crcOf s0).1.margin), .int .i64 ((jget crcOf s0).1.credit), .slice aoG0 ((jget crcOf s0).1.l.length) cG0] 32 := hB39
  replace hK := hK.later hk37 (fun i hi hS => by have h1 : i = b30 := hS; omega)
  replace hB6 := hB6.kp hk37 (by show ¬ b1 = b30; omega)
  replace hB12 := hB12.kp hk37 (by show ¬ b7 = b30; omega)
  replace hB19 := hB19.kp hk37 (by show ¬ b14 = b30; omega)
  replace hT := hT.kp hk37 (fun h => by have h2 : (0 : Nat) = b30 := h; omega)
  replace hR0 := hR0.kp hk37 (fun i _ hF hS => by have h1 : i < w.heap.size := hF; have h2 : i = b30 := hS; omega)
  replace hR1 := hR1.kp hk37 (fun i _ hF hS => by have h1 : i < w.heap.size := hF; have h2 : i = b30 := hS; omega)
  replace hG0 := hG0.kp hk37 (fun i _ hF hS => by have h1 : w15.heap.size ≤ i ∧ i < w27.heap.size := hF; have h2 : i = b30 := hS; omega)
  replace hTr_w27 := hTr_w27.trans (hk37.mono (fun _ _ _ => trivial))
  replace hB35 := hB39
  refine rl (o_assign (v := .int .u64 ((jget crcOf s0).2.1)) rfl ?_) rfl
  refine rl (o_assign (v := .int .i64 ((jget crcOf s0).2.2)) rfl ?_) rfl
  refine rl_nil ?_
  refine k_tn ?_
  refine cw_norm [(2, .pointer (some ⟨b7, 0, none⟩)), (5, .pointer (some ⟨b14, 0, none⟩)), (6, .int .u64 (0)), (7, .int .i64 (0)), (9, .pointer (some ⟨b30, 0, none⟩)), (10, .int .u64 ((jget crcOf s0).2.1)), (11, .int .i64 ((jget crcOf s0).2.2)), (13, .agg #[.slice a0 s0.length p0, .slice a1 s1.length p1]), (14, .int .i64 (0))] ⟨rfl, rfl, rfl, rfl, rfl, rfl, rfl, rfl, rfl, trivial⟩ (fun ρn40 => ?_)
  refine cw_seq ?_
  refine cw_region rfl ?_
  refine rl (o_move (v := .int .i64 ((jget crcOf s0).2.2)) rfl ?_) rfl
  refine rl (o_eql rfl rfl ?_) rfl
  refine rl (o_move (v := .bool (decide ((jget crcOf s0).2.2 = 0))) rfl ?_) rfl
  by_cases h41 : (jget crcOf s0).2.2 = 0
  · skip
    refine rl (o_move (v := .int .u64 ((jget crcOf s0).2.1)) rfl ?_) (want_t rfl (decide_eq_true h41))
    refine rl (o_rem rfl rfl (by decide) hq0.1 ?_) (want_t rfl (decide_eq_true h41))
    refine rl (o_move (v := .int .i64 (0)) rfl ?_) (want_t rfl (decide_eq_true h41))
    refine rl (o_convI (a := 0) rfl ⟨_, Tryd.underlying3⟩ Tryd.underlying36 (by show (0 : Int) ≤ _; omega) (by show _ ≤ (18446744073709551615 : Int); omega) ?_) (want_t rfl (decide_eq_true h41))
    refine rl (o_eql rfl rfl ?_) (want_t rfl (decide_eq_true h41))
    refine rl (o_pickT (v := .bool (decide ((jget crcOf s0).2.1 % 2 = 0))) rfl (decide_eq_true h41) rfl ?_) rfl
    refine rl (o_move (v := .bool (decide ((jget crcOf s0).2.1 % 2 = 0))) rfl ?_) rfl
    by_cases h42 : (jget crcOf s0).2.1 % 2 = 0
    · skip
      refine rl (o_move (v := .int .u64 ((jget crcOf s0).2.1)) rfl ?_) (want_t rfl (decide_eq_true h42))
      refine rl (o_move (v := .int .u64 (0)) rfl ?_) (want_t rfl (decide_eq_true h42))
      refine rl (o_gtr rfl rfl ?_) (want_t rfl (decide_eq_true h42))
      refine rl (o_pickT (v := .bool (decide (0 < (jget crcOf s0).2.1))) rfl (decide_eq_true h42) rfl ?_) rfl
      refine rl_nil ?_
      refine k_tn ?_
      refine cw_norm [(2, .pointer (some ⟨b7, 0, none⟩)), (5, .pointer (some ⟨b14, 0, none⟩)), (6, .int .u64 (0)), (9, .pointer (some ⟨b30, 0, none⟩)), (10, .int .u64 ((jget crcOf s0).2.1)), (13, .agg #[.slice a0 s0.length p0, .slice a1 s1.length p1]), (14, .int .i64 (0)), (37, .bool (decide (0 < (jget crcOf s0).2.1)))] ⟨rfl, rfl, rfl, rfl, rfl, rfl, rfl, rfl, trivial⟩ (fun ρn43 => ?_)
      refine cw_if rfl (fun h44 => ?_) (fun h44 => ?_)
      · skip
        refine cw_seq ?_
        refine cw_region rfl ?_
        refine rl (o_loadBA (ds := [.int .i64 ((jget crcOf s0).1.budget), .int .i64 ((jget crcOf s0).1.margin), .int .i64 ((jget crcOf s0).1.credit), .slice aoG0 ((jget crcOf s0).1.l.length) cG0]) rfl hB35 tyA32 rfl rfl ?_) rfl
        refine rl0 (o_storeA (vs := [.int .i64 ((jget crcOf s0).1.budget), .int .i64 ((jget crcOf s0).1.margin), .int .i64 ((jget crcOf s0).1.credit), .slice aoG0 ((jget crcOf s0).1.l.length) cG0]) rfl rfl hB19 tyA32 rfl rfl (Nat.le_of_ble_eq_true rfl) (fun w45 hk46 hz47 hB48 => ?_)) rfl
        replace hB48 : Box w45 b14 [.int .i64 ((jget crcOf s0).1.budget), .int .i64 ((jget crcOf s0).1.margin), .int .i64 ((jget crcOf s0).1.credit), .slice aoG0 ((jget crcOf s0).1.l.length) cG0] 32 := hB48
        replace hK := hK.later hk46 (fun i hi hS => by have h1 : i = b14 := hS; omega)
        replace hB6 := hB6.kp hk46 (by show ¬ b1 = b14; omega)
        replace hB12 := hB12.kp hk46 (by show ¬ b7 = b14; omega)
        replace hB35 := hB35.kp hk46 (by show ¬ b30 = b14; omega)
        replace hT := hT.kp hk46 (fun h => by have h2 : (0 : Nat) = b14 := h; omega)
        replace hR0 := hR0.kp hk46 (fun i _ hF hS => by have h1 : i < w.heap.size := hF; have h2 : i = b14 := hS; omega)
        replace hR1 := hR1.kp hk46 (fun i _ hF hS => by have h1 : i < w.heap.size := hF; have h2 : i = b14 := hS; omega)
        replace hG0 := hG0.kp hk46 (fun i _ hF hS => by have h1 : w15.heap.size ≤ i ∧ i < w27.heap.size := hF; have h2 : i = b14 := hS; omega)
        replace hTr_w27 := hTr_w27.trans (hk46.mono (fun _ _ _ => trivial))
        replace hB19 := hB48
        refine rl_nil ?_
        refine k_tn ?_
        refine cw_norm [(2, .pointer (some ⟨b7, 0, none⟩)), (5, .pointer (some ⟨b14, 0, none⟩)), (10, .int .u64 ((jget crcOf s0).2.1)), (13, .agg #[.slice a0 s0.length p0, .slice a1 s1.length p1]), (14, .int .i64 (0))] ⟨rfl, rfl, rfl, rfl, rfl, trivial⟩ (fun ρn49 => ?_)
        refine cw_region rfl ?_
        refine rl (o_move (v := .int .u64 ((jget crcOf s0).2.1)) rfl ?_) rfl
        refine rl (o_assign (v := .int .u64 ((jget crcOf s0).2.1)) rfl ?_) rfl
        refine rl_nil ?_
        refine k_bn ?_
        refine k_tn ?_
        refine cw_norm [(2, .pointer (some ⟨b7, 0, none⟩)), (5, .pointer (some ⟨b14, 0, none⟩)), (6, .int .u64 ((jget crcOf s0).2.1)), (13, .agg #[.slice a0 s0.length p0, .slice a1 s1.length p1]), (14, .int .i64 (0))] ⟨rfl, rfl, rfl, rfl, rfl, trivial⟩ (fun ρn50 => ?_)
        refine cw_region rfl ?_
        refine rl (o_add64 (a := 0) (b := 1) rfl rfl (by omega) (by omega) ?_) rfl
        refine rl (o_move (v := .int .i64 (1)) rfl ?_) rfl
        refine rl_nil ?_
        refine k_tn ?_
        refine cwl_unroll ?_
        refine cw_seq ?_
        refine cw_region rfl ?_
        refine rl (o_lss rfl rfl ?_) rfl
        refine rl_nil ?_
        refine k_tn ?_
        refine cw_norm [(2, .pointer (some ⟨b7, 0, none⟩)), (5, .pointer (some ⟨b14, 0, none⟩)), (6, .int .u64 ((jget crcOf s0).2.1)), (13, .agg #[.slice a0 s0.length p0, .slice a1 s1.length p1]), (14, .int .i64 (1)), (15, .bool (true))] ⟨rfl, rfl, rfl, rfl, rfl, rfl, trivial⟩ (fun ρn51 => ?_)
        refine cw_seq ?_
        refine cw_condT rfl ?_
        refine cw_skip ?_
        refine k_tn ?_
        refine cw_norm [(2, .pointer (some ⟨b7, 0, none⟩)), (5, .pointer (some ⟨b14, 0, none⟩)), (6, .int .u64 ((jget crcOf s0).2.1)), (13, .agg #[.slice a0 s0.length p0, .slice a1 s1.length p1]), (14, .int .i64 (1))] ⟨rfl, rfl, rfl, rfl, rfl, trivial⟩ (fun ρn52 => ?_)
        refine cw_seq ?_
        refine cw_block ?_
        refine cw_seq ?_
        refine cw_region rfl ?_
        refine rl (o_move (v := .int .i64 (1)) rfl ?_) rfl
        refine rl (o_indexV (cs := [.slice a0 s0.length p0, .slice a1 s1.length p1]) (v := .slice a1 s1.length p1) 1 rfl rfl Tryd.underlying25 tyS24 (by decide) rfl ?_) rfl
        refine rl (o_assign (v := .int .i64 (1)) rfl ?_) rfl
        refine rl (o_assign (v := .slice a1 s1.length p1) rfl ?_) rfl
        refine rl_nil ?_
        refine k_tn ?_
        refine cw_norm [(2, .pointer (some ⟨b7, 0, none⟩)), (5, .pointer (some ⟨b14, 0, none⟩)), (6, .int .u64 ((jget crcOf s0).2.1)), (7, .int .i64 (1)), (8, .slice a1 s1.length p1), (13, .agg #[.slice a0 s0.length p0, .slice a1 s1.length p1]), (14, .int .i64 (1))] ⟨rfl, rfl, rfl, rfl, rfl, rfl, rfl, trivial⟩ (fun ρn53 => ?_)
        refine cw_seq ?_
        refine cw_region rfl ?_
        refine rl (o_move (v := .slice a1 s1.length p1) rfl ?_) rfl
        refine rl (o_call (jget_ok a1 p1 s1 _ _ rfl hn1 hB1 hT hR1) Tryd.call27 (fun v54 w55 hk56 hv57 => ?_)) rfl
        have hl_b1_w55 := hB6.lt
        have hl_b7_w55 := hB12.lt
        have hl_b14_w55 := hB19.lt
        have hl_b30_w55 := hB35.lt
        have hs_w55 := hK.size
        obtain ⟨nG1, aoG1, cG1, rfl, hnG1, hG1⟩ := hv57
        replace hK := hK.trans (Kp.ext hk56)
        replace hB6 := hB6.ext hk56
        replace hB12 := hB12.ext hk56
        replace hB19 := hB19.ext hk56
        replace hB35 := hB35.ext hk56
        replace hT := hT.ext hk56
        replace hR0 := hR0.ext hk56
        replace hR1 := hR1.ext hk56
        replace hG0 := hG0.ext hk56
        replace hTr_w27 := hTr_w27.trans (Kp.ext hk56)
        subst hnG1
        replace hG1 := hG1.mono (G := fun b => w45.heap.size ≤ b ∧ b < w55.heap.size) (fun b hb h => ⟨h, hb⟩)
        have hTr_w55 := Kp.refl (fun _ => True) w55
        refine rl (o_move (v := .tuple #[.agg #[.int .i64 ((jget crcOf s1).1.budget), .int .i64 ((jget crcOf s1).1.margin), .int .i64 ((jget crcOf s1).1.credit), .slice aoG1 ((jget crcOf s1).1.l.length) cG1], .int .u64 ((jget crcOf s1).2.1), .int .i64 ((jget crcOf s1).2.2)]) rfl ?_) rfl
        refine rl (o_extract (vs := [.agg #[.int .i64 ((jget crcOf s1).1.budget), .int .i64 ((jget crcOf s1).1.margin), .int .i64 ((jget crcOf s1).1.credit), .slice aoG1 ((jget crcOf s1).1.l.length) cG1], .int .u64 ((jget crcOf s1).2.1), .int .i64 ((jget crcOf s1).2.2)]) (v := .agg #[.int .i64 ((jget crcOf s1).1.budget), .int .i64 ((jget crcOf s1).1.margin), .int .i64 ((jget crcOf s1).1.credit), .slice aoG1 ((jget crcOf s1).1.l.length) cG1]) rfl rfl ?_) rfl
        refine rl (o_extract (vs := [.agg #[.int .i64 ((jget crcOf s1).1.budget), .int .i64 ((jget crcOf s1).1.margin), .int .i64 ((jget crcOf s1).1.credit), .slice aoG1 ((jget crcOf s1).1.l.length) cG1], .int .u64 ((jget crcOf s1).2.1), .int .i64 ((jget crcOf s1).2.2)]) (v := .int .u64 ((jget crcOf s1).2.1)) rfl rfl ?_) rfl
        refine rl (o_extract (vs := [.agg #[.int .i64 ((jget crcOf s1).1.budget), .int .i64 ((jget crcOf s1).1.margin), .int .i64 ((jget crcOf s1).1.credit), .slice aoG1 ((jget crcOf s1).1.l.length) cG1], .int .u64 ((jget crcOf s1).2.1), .int .i64 ((jget crcOf s1).2.2)]) (v := .int .i64 ((jget crcOf s1).2.2)) rfl rfl ?_) rfl
        refine rl (o_alloc Tryd.zeroValue32 (fun b58 w59 hb60 hz61 hk62 hB63 => ?_)) rfl
        replace hB63 : Box w59 b58 [.int .i64 (0), .int .i64 (0), .int .i64 (0), .slice none 0 0] 32 := hB63
        have hs_b58 := hK.size
        have hl_b1_b58 := hB6.lt
        have hl_b7_b58 := hB12.lt
        have hl_b14_b58 := hB19.lt
        have hl_b30_b58 := hB35.lt
        have ht_hTr_w27_b58 := hTr_w27.size
        have ht_hTr_w55_b58 := hTr_w55.size
        replace hK := hK.trans (Kp.ext hk62)
        replace hB6 := hB6.ext hk62
        replace hB12 := hB12.ext hk62
        replace hB19 := hB19.ext hk62
        replace hB35 := hB35.ext hk62
        replace hT := hT.ext hk62
        replace hR0 := hR0.ext hk62
        replace hR1 := hR1.ext hk62
        replace hG0 := hG0.ext hk62
        replace hTr_w27 := hTr_w27.trans (Kp.ext hk62)
        replace hG1 := hG1.ext hk62
        replace hTr_w55 := hTr_w55.trans (Kp.ext hk62)
        refine rl0 (o_storeA (vs := [.int .i64 ((jget crcOf s1).1.budget), .int .i64 ((jget crcOf s1).1.margin), .int .i64 ((jget crcOf s1).1.credit), .slice aoG1 ((jget crcOf s1).1.l.length) cG1]) rfl rfl hB63 tyA32 rfl rfl (Nat.le_of_ble_eq_true rfl) (fun w64 hk65 hz66 hB67 => ?_)) rfl
        replace hB67 : Box w64 b58 [.int .i64 ((jget crcOf s1).1.budget), .int .i64 ((jget crcOf s1).1.margin), .int .i64 ((jget crcOf s1).1.credit), .slice aoG1 ((jget crcOf s1).1.l.length) cG1] 32 := hB67
        replace hK := hK.later hk65 (fun i hi hS => by have h1 : i = b58 := hS; omega)
        replace hB6 := hB6.kp hk65 (by show ¬ b1 = b58; omega)
        replace hB12 := hB12.kp hk65 (by show ¬ b7 = b58; omega)
        replace hB19 := hB19.kp hk65 (by show ¬ b14 = b58; omega)
        replace hB35 := hB35.kp hk65 (by show ¬ b30 = b58; omega)
        replace hT := hT.kp hk65 (fun h => by have h2 : (0 : Nat) = b58 := h; omega)
        replace hR0 := hR0.kp hk65 (fun i _ hF hS => by have h1 : i < w.heap.size := hF; have h2 : i = b58 := hS; omega)
        replace hR1 := hR1.kp hk65 (fun i _ hF hS => by have h1 : i < w.heap.size := hF; have h2 : i = b58 := hS; omega)
        replace hG0 := hG0.kp hk65 (fun i _ hF hS => by have h1 : w15.heap.size ≤ i ∧ i < w27.heap.size := hF; have h2 : i = b58 := hS; omega)
        replace hTr_w27 := hTr_w27.trans (hk65.mono (fun _ _ _ => trivial))
        replace hG1 := hG1.kp hk65 (fun i _ hF hS => by have h1 : w45.heap.size ≤ i ∧ i < w55.heap.size := hF; have h2 : i = b58 := hS; omega)
        replace hTr_w55 := hTr_w55.trans (hk65.mono (fun _ _ _ => trivial))
        replace hB63 := hB67
        refine rl (o_assign (v := .int .u64 ((jget crcOf s1).2.1)) rfl ?_) rfl
        refine rl (o_assign (v := .int .i64 ((jget crcOf s1).2.2)) rfl ?_) rfl
        refine rl_nil ?_
        refine k_tn ?_
        refine cw_norm [(2, .pointer (some ⟨b7, 0, none⟩)), (5, .pointer (some ⟨b14, 0, none⟩)), (6, .int .u64 ((jget crcOf s0).2.1)), (7, .int .i64 (1)), (9, .pointer (some ⟨b58, 0, none⟩)), (10, .int .u64 ((jget crcOf s1).2.1)), (11, .int .i64 ((jget crcOf s1).2.2)), (13, .agg #[.slice a0 s0.length p0, .slice a1 s1.length p1]), (14, .int .i64 (1))] ⟨rfl, rfl, rfl, rfl, rfl, rfl, rfl, rfl, rfl, trivial⟩ (fun ρn68 => ?_)
        refine cw_seq ?_
        refine cw_region rfl ?_
        refine rl (o_move (v := .int .i64 ((jget crcOf s1).2.2)) rfl ?_) rfl
        refine rl (o_eql rfl rfl ?_) rfl
        refine rl (o_move (v := .bool (decide ((jget crcOf s1).2.2 = 0))) rfl ?_) rfl
        by_cases h69 : (jget crcOf s1).2.2 = 0
        · skip
          refine rl (o_move (v := .int .u64 ((jget crcOf s1).2.1)) rfl ?_) (want_t rfl (decide_eq_true h69))
          refine rl (o_rem rfl rfl (by decide) hq1.1 ?_) (want_t rfl (decide_eq_true h69))
          refine rl (o_move (v := .int .i64 (1)) rfl ?_) (want_t rfl (decide_eq_true h69))
          refine rl (o_convI (a := 1) rfl ⟨_, Tryd.underlying3⟩ Tryd.underlying36 (by show (0 : Int) ≤ _; omega) (by show _ ≤ (18446744073709551615 : Int); omega) ?_) (want_t rfl (decide_eq_true h69))
          refine rl (o_eql rfl rfl ?_) (want_t rfl (decide_eq_true h69))
          refine rl (o_pickT (v := .bool (decide ((jget crcOf s1).2.1 % 2 = 1))) rfl (decide_eq_true h69) rfl ?_) rfl
          refine rl (o_move (v := .bool (decide ((jget crcOf s1).2.1 % 2 = 1))) rfl ?_) rfl
          by_cases h70 : (jget crcOf s1).2.1 % 2 = 1
          · skip
            refine rl (o_move (v := .int .u64 ((jget crcOf s1).2.1)) rfl ?_) (want_t rfl (decide_eq_true h70))
            refine rl (o_move (v := .int .u64 ((jget crcOf s0).2.1)) rfl ?_) (want_t rfl (decide_eq_true h70))
            refine rl (o_gtr rfl rfl ?_) (want_t rfl (decide_eq_true h70))
            refine rl (o_pickT (v := .bool (decide ((jget crcOf s0).2.1 < (jget crcOf s1).2.1))) rfl (decide_eq_true h70) rfl ?_) rfl
            refine rl_nil ?_
            refine k_tn ?_
            refine cw_norm [(2, .pointer (some ⟨b7, 0, none⟩)), (5, .pointer (some ⟨b14, 0, none⟩)), (6, .int .u64 ((jget crcOf s0).2.1)), (9, .pointer (some ⟨b58, 0, none⟩)), (10, .int .u64 ((jget crcOf s1).2.1)), (13, .agg #[.slice a0 s0.length p0, .slice a1 s1.length p1]), (14, .int .i64 (1)), (37, .bool (decide ((jget crcOf s0).2.1 < (jget crcOf s1).2.1)))] ⟨rfl, rfl, rfl, rfl, rfl, rfl, rfl, rfl, trivial⟩ (fun ρn71 => ?_)
            refine cw_if rfl (fun h72 => ?_) (fun h72 => ?_)
            · skip
              refine cw_seq ?_
              refine cw_region rfl ?_
              refine rl (o_loadBA (ds := [.int .i64 ((jget crcOf s1).1.budget), .int .i64 ((jget crcOf s1).1.margin), .int .i64 ((jget crcOf s1).1.credit), .slice aoG1 ((jget crcOf s1).1.l.length) cG1]) rfl hB63 tyA32 rfl rfl ?_) rfl
              refine rl0 (o_storeA (vs := [.int .i64 ((jget crcOf s1).1.budget), .int .i64 ((jget crcOf s1).1.margin), .int .i64 ((jget crcOf s1).1.credit), .slice aoG1 ((jget crcOf s1).1.l.length) cG1]) rfl rfl hB19 tyA32 rfl rfl (Nat.le_of_ble_eq_true rfl) (fun w73 hk74 hz75 hB76 => ?_)) rfl
              replace hB76 : Box w73 b14 [.int .i64 ((jget crcOf s1).1.budget), .int .i64 ((jget crcOf s1).1.margin), .int .i64 ((jget crcOf s1).1.credit), .slice aoG1 ((jget crcOf s1).1.l.length) cG1] 32 := hB76
              replace hK := hK.later hk74 (fun i hi hS => by have h1 : i = b14 := hS; omega)
              replace hB6 := hB6.kp hk74 (by show ¬ b1 = b14; omega)
              replace hB12 := hB12.kp hk74 (by show ¬ b7 = b14; omega)
              replace hB35 := hB35.kp hk74 (by show ¬ b30 = b14; omega)
              replace hB63 := hB63.kp hk74 (by show ¬ b58 = b14; omega)
              replace hT := hT.kp hk74 (fun h => by have h2 : (0 : Nat) = b14 := h; omega)
              replace hR0 := hR0.kp hk74 (fun i _ hF hS => by have h1 : i < w.heap.size := hF; have h2 : i = b14 := hS; omega)
              replace hR1 := hR1.kp hk74 (fun i _ hF hS => by have h1 : i < w.heap.size := hF; have h2 : i = b14 := hS; omega)
              replace hG0 := hG0.kp hk74 (fun i _ hF hS => by have h1 : w15.heap.size ≤ i ∧ i < w27.heap.size := hF; have h2 : i = b14 := hS; omega)
              replace hTr_w27 := hTr_w27.trans (hk74.mono (fun _ _ _ => trivial))
              replace hG1 := hG1.kp hk74 (fun i _ hF hS => by have h1 : w45.heap.size ≤ i ∧ i < w55.heap.size := hF; have h2 : i = b14 := hS; omega)
              replace hTr_w55 := hTr_w55.trans (hk74.mono (fun _ _ _ => trivial))
              replace hB19 := hB76
              refine rl_nil ?_
              refine k_tn ?_
              refine cw_norm [(2, .pointer (some ⟨b7, 0, none⟩)), (5, .pointer (some ⟨b14, 0, none⟩)), (10, .int .u64 ((jget crcOf s1).2.1)), (13, .agg #[.slice a0 s0.length p0, .slice a1 s1.length p1]), (14, .int .i64 (1))] ⟨rfl, rfl, rfl, rfl, rfl, trivial⟩ (fun ρn77 => ?_)
              refine cw_region rfl ?_
              refine rl (o_move (v := .int .u64 ((jget crcOf s1).2.1)) rfl ?_) rfl
              refine rl (o_assign (v := .int .u64 ((jget crcOf s1).2.1)) rfl ?_) rfl
              refine rl_nil ?_
              refine k_bn ?_
              refine k_tn ?_
              refine cw_norm [(2, .pointer (some ⟨b7, 0, none⟩)), (5, .pointer (some ⟨b14, 0, none⟩)), (6, .int .u64 ((jget crcOf s1).2.1)), (13, .agg #[.slice a0 s0.length p0, .slice a1 s1.length p1]), (14, .int .i64 (1))] ⟨rfl, rfl, rfl, rfl, rfl, trivial⟩ (fun ρn78 => ?_)
              refine cw_region rfl ?_
              refine rl (o_add64 (a := 1) (b := 1) rfl rfl (by omega) (by omega) ?_) rfl
              refine rl (o_move (v := .int .i64 (2)) rfl ?_) rfl
              refine rl_nil ?_
              refine k_tn ?_
              refine cwl_unroll ?_
              refine cw_seq ?_
              refine cw_region rfl ?_
              refine rl (o_lss rfl rfl ?_) rfl
              refine rl_nil ?_
              refine k_tn ?_
              refine cw_norm [(2, .pointer (some ⟨b7, 0, none⟩)), (5, .pointer (some ⟨b14, 0, none⟩)), (6, .int .u64 ((jget crcOf s1).2.1)), (13, .agg #[.slice a0 s0.length p0, .slice a1 s1.length p1]), (14, .int .i64 (2)), (15, .bool (false))] ⟨rfl, rfl, rfl, rfl, rfl, rfl, trivial⟩ (fun ρn79 => ?_)
              refine cw_seq ?_
              refine cw_condF rfl ?_
              refine cw_exit ?_
              refine k_te ?_
              refine k_te ?_
              refine k_bh ?_
              refine k_tn ?_
              refine cw_norm [(2, .pointer (some ⟨b7, 0, none⟩)), (5, .pointer (some ⟨b14, 0, none⟩)), (6, .int .u64 ((jget crcOf s1).2.1))] ⟨rfl, rfl, rfl, trivial⟩ (fun ρn80 => ?_)
              refine cw_reg rfl ?_
              refine rl (o_loadBA (ds := [.int .i64 ((jget crcOf s1).1.budget), .int .i64 ((jget crcOf s1).1.margin), .int .i64 ((jget crcOf s1).1.credit), .slice aoG1 ((jget crcOf s1).1.l.length) cG1]) rfl hB19 tyA32 rfl rfl ?_) rfl
              refine rl (o_move (v := .int .u64 ((jget crcOf s1).2.1)) rfl ?_) rfl
              refine rl (o_move (v := .int .u64 ((jget crcOf s1).2.1)) rfl ?_) rfl
              refine rl (o_gtr rfl rfl ?_) rfl
              refine rl0 (o_storeA (vs := [.int .i64 ((jget crcOf s1).1.budget), .int .i64 ((jget crcOf s1).1.margin), .int .i64 ((jget crcOf s1).1.credit), .slice aoG1 ((jget crcOf s1).1.l.length) cG1]) rfl rfl hB12 tyA32 rfl rfl (Nat.le_of_ble_eq_true rfl) (fun w81 hk82 hz83 hB84 => ?_)) rfl
              replace hB84 : Box w81 b7 [.int .i64 ((jget crcOf s1).1.budget), .int .i64 ((jget crcOf s1).1.margin), .int .i64 ((jget crcOf s1).1.credit), .slice aoG1 ((jget crcOf s1).1.l.length) cG1] 32 := hB84
              replace hK := hK.later hk82 (fun i hi hS => by have h1 : i = b7 := hS; omega)
              replace hB6 := hB6.kp hk82 (by show ¬ b1 = b7; omega)
              replace hB19 := hB19.kp hk82 (by show ¬ b14 = b7; omega)
              replace hB35 := hB35.kp hk82 (by show ¬ b30 = b7; omega)
              replace hB63 := hB63.kp hk82 (by show ¬ b58 = b7; omega)
              replace hT := hT.kp hk82 (fun h => by have h2 : (0 : Nat) = b7 := h; omega)
              replace hR0 := hR0.kp hk82 (fun i _ hF hS => by have h1 : i < w.heap.size := hF; have h2 : i = b7 := hS; omega)
              replace hR1 := hR1.kp hk82 (fun i _ hF hS => by have h1 : i < w.heap.size := hF; have h2 : i = b7 := hS; omega)
              replace hG0 := hG0.kp hk82 (fun i _ hF hS => by have h1 : w15.heap.size ≤ i ∧ i < w27.heap.size := hF; have h2 : i = b7 := hS; omega)
              replace hTr_w27 := hTr_w27.trans (hk82.mono (fun _ _ _ => trivial))
              replace hG1 := hG1.kp hk82 (fun i _ hF hS => by have h1 : w45.heap.size ≤ i ∧ i < w55.heap.size := hF; have h2 : i = b7 := hS; omega)
              replace hTr_w55 := hTr_w55.trans (hk82.mono (fun _ _ _ => trivial))
              replace hB12 := hB84
              refine rl (o_assign (v := .int .u64 ((jget crcOf s1).2.1)) rfl ?_) rfl
              refine rl (o_assign (v := .bool (decide (0 < (jget crcOf s1).2.1))) rfl ?_) rfl
              refine rl_nil ?_
              refine cw_ret ?_
              refine ret_intro (v := .tuple #[.agg #[.int .i64 ((jget crcOf s1).1.budget), .int .i64 ((jget crcOf s1).1.margin), .int .i64 ((jget crcOf s1).1.credit), .slice aoG1 ((jget crcOf s1).1.l.length) cG1], .int .u64 ((jget crcOf s1).2.1), .bool (decide (0 < (jget crcOf s1).2.1))]) (res_ok (vs := [.agg #[.int .i64 ((jget crcOf s1).1.budget), .int .i64 ((jget crcOf s1).1.margin), .int .i64 ((jget crcOf s1).1.credit), .slice aoG1 ((jget crcOf s1).1.l.length) cG1], .int .u64 ((jget crcOf s1).2.1), .bool (decide (0 < (jget crcOf s1).2.1))]) rfl ⟨⟨_, rfl, run_loadA tyA32 rfl (hB12.at_ 0 4)⟩, rfl, rfl, trivial⟩) hK ?_
              have e0 : jstep crcOf 0 s0 (.zero, 0) = ((jget crcOf s0).1, (jget crcOf s0).2.1) := jstep_t (by omega) (by omega) (by omega)
              have e1 : jstep crcOf 1 s1 ((jget crcOf s0).1, (jget crcOf s0).2.1) = ((jget crcOf s1).1, (jget crcOf s1).2.1) := jstep_t (by omega) (by omega) (by omega)
              have hj : (jload crcOf ⟨s0, s1, la, wa, wr⟩) = ((jget crcOf s1).1, (jget crcOf s1).2.1) := by (unfold jload; rw [e0, e1])
              rw [hj]
              exact ⟨_, aoG1, cG1, rfl, rfl, hG1.mono (fun b _ h => by have h1 : w45.heap.size ≤ b ∧ b < w55.heap.size := h; omega)⟩
            · skip
              refine cw_skip ?_
              refine k_bn ?_
              refine k_tn ?_
              refine cw_norm [(2, .pointer (some ⟨b7, 0, none⟩)), (5, .pointer (some ⟨b14, 0, none⟩)), (6, .int .u64 ((jget crcOf s0).2.1)), (13, .agg #[.slice a0 s0.length p0, .slice a1 s1.length p1]), (14, .int .i64 (1))] ⟨rfl, rfl, rfl, rfl, rfl, trivial⟩ (fun ρn85 => ?_)
              refine cw_region rfl ?_
              refine rl (o_add64 (a := 1) (b := 1) rfl rfl (by omega) (by omega) ?_) rfl
              refine rl (o_move (v := .int .i64 (2)) rfl ?_) rfl
              refine rl_nil ?_
              refine k_tn ?_
              refine cwl_unroll ?_
              refine cw_seq ?_
              refine cw_region rfl ?_
              refine rl (o_lss rfl rfl ?_) rfl
              refine rl_nil ?_
              refine k_tn ?_
              refine cw_norm [(2, .pointer (some ⟨b7, 0, none⟩)), (5, .pointer (some ⟨b14, 0, none⟩)), (6, .int .u64 ((jget crcOf s0).2.1)), (13, .agg #[.slice a0 s0.length p0, .slice a1 s1.length p1]), (14, .int .i64 (2)), (15, .bool (false))] ⟨rfl, rfl, rfl, rfl, rfl, rfl, trivial⟩ (fun ρn86 => ?_)
              refine cw_seq ?_
              refine cw_condF rfl ?_
              refine cw_exit ?_
              refine k_te ?_
              refine k_te ?_
              refine k_bh ?_
              refine k_tn ?_
              refine cw_norm [(2, .pointer (some ⟨b7, 0, none⟩)), (5, .pointer (some ⟨b14, 0, none⟩)), (6, .int .u64 ((jget crcOf s0).2.1))] ⟨rfl, rfl, rfl, trivial⟩ (fun ρn87 => ?_)
              refine cw_reg rfl ?_
              refine rl (o_loadBA (ds := [.int .i64 ((jget crcOf s0).1.budget), .int .i64 ((jget crcOf s0).1.margin), .int .i64 ((jget crcOf s0).1.credit), .slice aoG0 ((jget crcOf s0).1.l.length) cG0]) rfl hB19 tyA32 rfl rfl ?_) rfl
              refine rl (o_move (v := .int .u64 ((jget crcOf s0).2.1)) rfl ?_) rfl
              refine rl (o_move (v := .int .u64 ((jget crcOf s0).2.1)) rfl ?_) rfl
              refine rl (o_gtr rfl rfl ?_) rfl
              refine rl0 (o_storeA (vs := [.int .i64 ((jget crcOf s0).1.budget), .int .i64 ((jget crcOf s0).1.margin), .int .i64 ((jget crcOf s0).1.credit), .slice aoG0 ((jget crcOf s0).1.l.length) cG0]) rfl rfl hB12 tyA32 rfl rfl (Nat.le_of_ble_eq_true rfl) (fun w88 hk89 hz90 hB91 => ?_)) rfl
              replace hB91 : Box w88 b7 [.int .i64 ((jget crcOf s0).1.budget), .int .i64 ((jget crcOf s0).1.margin), .int .i64 ((jget crcOf s0).1.credit), .slice aoG0 ((jget crcOf s0).1.l.length) cG0] 32 := hB91
              replace hK := hK.later hk89 (fun i hi hS => by have h1 : i = b7 := hS; omega)
              replace hB6 := hB6.kp hk89 (by show ¬ b1 = b7; omega)
              replace hB19 := hB19.kp hk89 (by show ¬ b14 = b7; omega)
              replace hB35 := hB35.kp hk89 (by show ¬ b30 = b7; omega)
              replace hB63 := hB63.kp hk89 (by show ¬ b58 = b7; omega)
              replace hT := hT.kp hk89 (fun h => by have h2 : (0 : Nat) = b7 := h; omega)
              replace hR0 := hR0.kp hk89 (fun i _ hF hS => by have h1 : i < w.heap.size := hF; have h2 : i = b7 := hS; omega)
              replace hR1 := hR1.kp hk89 (fun i _ hF hS => by have h1 : i < w.heap.size := hF; have h2 : i = b7 := hS; omega)
              replace hG0 := hG0.kp hk89 (fun i _ hF hS => by have h1 : w15.heap.size ≤ i ∧ i < w27.heap.size := hF; have h2 : i = b7 := hS; omega)
              replace hTr_w27 := hTr_w27.trans (hk89.mono (fun _ _ _ => trivial))
              replace hG1 := hG1.kp hk89 (fun i _ hF hS => by have h1 : w45.heap.size ≤ i ∧ i < w55.heap.size := hF; have h2 : i = b7 := hS; omega)
              replace hTr_w55 := hTr_w55.trans (hk89.mono (fun _ _ _ => trivial))
              replace hB12 := hB91
              refine rl (o_assign (v := .int .u64 ((jget crcOf s0).2.1)) rfl ?_) rfl
              refine rl (o_assign (v := .bool (decide (0 < (jget crcOf s0).2.1))) rfl ?_) rfl
              refine rl_nil ?_
              refine cw_ret ?_
              refine ret_intro (v := .tuple #[.agg #[.int .i64 ((jget crcOf s0).1.budget), .int .i64 ((jget crcOf s0).1.margin), .int .i64 ((jget crcOf s0).1.credit), .slice aoG0 ((jget crcOf s0).1.l.length) cG0], .int .u64 ((jget crcOf s0).2.1), .bool (decide (0 < (jget crcOf s0).2.1))]) (res_ok (vs := [.agg #[.int .i64 ((jget crcOf s0).1.budget), .int .i64 ((jget crcOf s0).1.margin), .int .i64 ((jget crcOf s0).1.credit), .slice aoG0 ((jget crcOf s0).1.l.length) cG0], .int .u64 ((jget crcOf s0).2.1), .bool (decide (0 < (jget crcOf s0).2.1))]) rfl ⟨⟨_, rfl, run_loadA tyA32 rfl (hB12.at_ 0 4)⟩, rfl, rfl, trivial⟩) hK ?_
              have e0 : jstep crcOf 0 s0 (.zero, 0) = ((jget crcOf s0).1, (jget crcOf s0).2.1) := jstep_t (by omega) (by omega) (by omega)
              have e1 : jstep crcOf 1 s1 ((jget crcOf s0).1, (jget crcOf s0).2.1) = ((jget crcOf s0).1, (jget crcOf s0).2.1) := jstep_f (by omega)
              have hj : (jload crcOf ⟨s0, s1, la, wa, wr⟩) = ((jget crcOf s0).1, (jget crcOf s0).2.1) := by (unfold jload; rw [e0, e1])
              rw [hj]
              exact ⟨_, aoG0, cG0, rfl, rfl, hG0.mono (fun b _ h => by have h1 : w15.heap.size ≤ b ∧ b < w27.heap.size := h; omega)⟩
          · skip
            refine rlo ?_ (want_f rfl (decide_eq_false h70) (by decide))
            refine rlo ?_ (want_f rfl (decide_eq_false h70) (by decide))
            refine rlo ?_ (want_f rfl (decide_eq_false h70) (by decide))
            refine rl (o_pickF (v := .bool (false)) rfl (decide_eq_false h70) rfl ?_) rfl
            refine rl_nil ?_
            refine k_tn ?_
            refine cw_norm [(2, .pointer (some ⟨b7, 0, none⟩)), (5, .pointer (some ⟨b14, 0, none⟩)), (6, .int .u64 ((jget crcOf s0).2.1)), (9, .pointer (some ⟨b58, 0, none⟩)), (10, .int .u64 ((jget crcOf s1).2.1)), (13, .agg #[.slice a0 s0.length p0, .slice a1 s1.length p1]), (14, .int .i64 (1)), (37, .bool (false))] ⟨rfl, rfl, rfl, rfl, rfl, rfl, rfl, rfl, trivial⟩ (fun ρn92 => ?_)
            refine cw_condF rfl ?_
            refine cw_skip ?_
            refine k_bn ?_
            refine k_tn ?_
            refine cw_norm [(2, .pointer (some ⟨b7, 0, none⟩)), (5, .pointer (some ⟨b14, 0, none⟩)), (6, .int .u64 ((jget crcOf s0).2.1)), (13, .agg #[.slice a0 s0.length p0, .slice a1 s1.length p1]), (14, .int .i64 (1))] ⟨rfl, rfl, rfl, rfl, rfl, trivial⟩ (fun ρn93 => ?_)
            refine cw_region rfl ?_
            refine rl (o_add64 (a := 1) (b := 1) rfl rfl (by omega) (by omega) ?_) rfl
            refine rl (o_move (v := .int .i64 (2)) rfl ?_) rfl
            refine rl_nil ?_
            refine k_tn ?_
            refine cwl_unroll ?_
            refine cw_seq ?_
            refine cw_region rfl ?_
            refine rl (o_lss rfl rfl ?_) rfl
            refine rl_nil ?_
            refine k_tn ?_
            refine cw_norm [(2, .pointer (some ⟨b7, 0, none⟩)), (5, .pointer (some ⟨b14, 0, none⟩)), (6, .int .u64 ((jget crcOf s0).2.1)), (13, .agg #[.slice a0 s0.length p0, .slice a1 s1.length p1]), (14, .int .i64 (2)), (15, .bool (false))] ⟨rfl, rfl, rfl, rfl, rfl, rfl, trivial⟩ (fun ρn94 => ?_)
            refine cw_seq ?_
            refine cw_condF rfl ?_
            refine cw_exit ?_
            refine k_te ?_
            refine k_te ?_
            refine k_bh ?_
            refine k_tn ?_
            refine cw_norm [(2, .pointer (some ⟨b7, 0, none⟩)), (5, .pointer (some ⟨b14, 0, none⟩)), (6, .int .u64 ((jget crcOf s0).2.1))] ⟨rfl, rfl, rfl, trivial⟩ (fun ρn95 => ?_)
            refine cw_reg rfl ?_
            refine rl (o_loadBA (ds := [.int .i64 ((jget crcOf s0).1.budget), .int .i64 ((jget crcOf s0).1.margin), .int .i64 ((jget crcOf s0).1.credit), .slice aoG0 ((jget crcOf s0).1.l.length) cG0]) rfl hB19 tyA32 rfl rfl ?_) rfl
            refine rl (o_move (v := .int .u64 ((jget crcOf s0).2.1)) rfl ?_) rfl
            refine rl (o_move (v := .int .u64 ((jget crcOf s0).2.1)) rfl ?_) rfl
            refine rl (o_gtr rfl rfl ?_) rfl
            refine rl0 (o_storeA (vs := [.int .i64 ((jget crcOf s0).1.budget), .int .i64 ((jget crcOf s0).1.margin), .int .i64 ((jget crcOf s0).1.credit), .slice aoG0 ((jget crcOf s0).1.l.length) cG0]) rfl rfl hB12 tyA32 rfl rfl (Nat.le_of_ble_eq_true rfl) (fun w96 hk97 hz98 hB99 => ?_)) rfl
            replace hB99 : Box w96 b7 [.int .i64 ((jget crcOf s0).1.budget), .int .i64 ((jget crcOf s0).1.margin), .int .i64 ((jget crcOf s0).1.credit), .slice aoG0 ((jget crcOf s0).1.l.length) cG0] 32 := hB99
            replace hK := hK.later hk97 (fun i hi hS => by have h1 : i = b7 := hS; omega)
            replace hB6 := hB6.kp hk97 (by show ¬ b1 = b7; omega)
            replace hB19 := hB19.kp hk97 (by show ¬ b14 = b7; omega)
            replace hB35 := hB35.kp hk97 (by show ¬ b30 = b7; omega)
            replace hB63 := hB63.kp hk97 (by show ¬ b58 = b7; omega)
            replace hT := hT.kp hk97 (fun h => by have h2 : (0 : Nat) = b7 := h; omega)
            replace hR0 := hR0.kp hk97 (fun i _ hF hS => by have h1 : i < w.heap.size := hF; have h2 : i = b7 := hS; omega)
            replace hR1 := hR1.kp hk97 (fun i _ hF hS => by have h1 : i < w.heap.size := hF; have h2 : i = b7 := hS; omega)
            replace hG0 := hG0.kp hk97 (fun i _ hF hS => by have h1 : w15.heap.size ≤ i ∧ i < w27.heap.size := hF; have h2 : i = b7 := hS; omega)
            replace hTr_w27 := hTr_w27.trans (hk97.mono (fun _ _ _ => trivial))
            replace hG1 := hG1.kp hk97 (fun i _ hF hS => by have h1 : w45.heap.size ≤ i ∧ i < w55.heap.size := hF; have h2 : i = b7 := hS; omega)
            replace hTr_w55 := hTr_w55.trans (hk97.mono (fun _ _ _ => trivial))
            replace hB12 := hB99
            refine rl (o_assign (v := .int .u64 ((jget crcOf s0).2.1)) rfl ?_) rfl
            refine rl (o_assign (v := .bool (decide (0 < (jget crcOf s0).2.1))) rfl ?_) rfl
            refine rl_nil ?_
            refine cw_ret ?_
            refine ret_intro (v := .tuple #[.agg #[.int .i64 ((jget crcOf s0).1.budget), .int .i64 ((jget crcOf s0).1.margin), .int .i64 ((jget crcOf s0).1.credit), .slice aoG0 ((jget crcOf s0).1.l.length) cG0], .int .u64 ((jget crcOf s0).2.1), .bool (decide (0 < (jget crcOf s0).2.1))]) (res_ok (vs := [.agg #[.int .i64 ((jget crcOf s0).1.budget), .int .i64 ((jget crcOf s0).1.margin), .int .i64 ((jget crcOf s0).1.credit), .slice aoG0 ((jget crcOf s0).1.l.length) cG0], .int .u64 ((jget crcOf s0).2.1), .bool (decide (0 < (jget crcOf s0).2.1))]) rfl ⟨⟨_, rfl, run_loadA tyA32 rfl (hB12.at_ 0 4)⟩, rfl, rfl, trivial⟩) hK ?_
            have e0 : jstep crcOf 0 s0 (.zero, 0) = ((jget crcOf s0).1, (jget crcOf s0).2.1) := jstep_t (by omega) (by omega) (by omega)
            have e1 : jstep crcOf 1 s1 ((jget crcOf s0).1, (jget crcOf s0).2.1) = ((jget crcOf s0).1, (jget crcOf s0).2.1) := jstep_f (by omega)
            have hj : (jload crcOf ⟨s0, s1, la, wa, wr⟩) = ((jget crcOf s0).1, (jget crcOf s0).2.1) := by (unfold jload; rw [e0, e1])
            rw [hj]
            exact ⟨_, aoG0, cG0, rfl, rfl, hG0.mono (fun b _ h => by have h1 : w15.heap.size ≤ b ∧ b < w27.heap.size := h; omega)⟩
        · skip
          refine rlo ?_ (want_f rfl (decide_eq_false h69) (by decide))
          refine rlo ?_ (want_f rfl (decide_eq_false h69) (by decide))
          refine rlo ?_ (want_f rfl (decide_eq_false h69) (by decide))
          refine rlo ?_ (want_f rfl (decide_eq_false h69) (by decide))
          refine rlo ?_ (want_f rfl (decide_eq_false h69) (by decide))
          refine rl (o_pickF (v := .bool (false)) rfl (decide_eq_false h69) rfl ?_) rfl
          refine rl (o_move (v := .bool (false)) rfl ?_) rfl
          refine rlo ?_ (want_f rfl (rfl) (by decide))
          refine rlo ?_ (want_f rfl (rfl) (by decide))
          refine rlo ?_ (want_f rfl (rfl) (by decide))
          refine rl (o_pickF (v := .bool (false)) rfl (rfl) rfl ?_) rfl
          refine rl_nil ?_
          refine k_tn ?_
          refine cw_norm [(2, .pointer (some ⟨b7, 0, none⟩)), (5, .pointer (some ⟨b14, 0, none⟩)), (6, .int .u64 ((jget crcOf s0).2.1)), (9, .pointer (some ⟨b58, 0, none⟩)), (10, .int .u64 ((jget crcOf s1).2.1)), (13, .agg #[.slice a0 s0.length p0, .slice a1 s1.length p1]), (14, .int .i64 (1)), (37, .bool (false))] ⟨rfl, rfl, rfl, rfl, rfl, rfl, rfl, rfl, trivial⟩ (fun ρn100 => ?_)
          refine cw_condF rfl ?_
          refine cw_skip ?_
          refine k_bn ?_
          refine k_tn ?_
          refine cw_norm [(2, .pointer (some ⟨b7, 0, none⟩)), (5, .pointer (some ⟨b14, 0, none⟩)), (6, .int .u64 ((jget crcOf s0).2.1)), (13, .agg #[.slice a0 s0.length p0, .slice a1 s1.length p1]), (14, .int .i64 (1))] ⟨rfl, rfl, rfl, rfl, rfl, trivial⟩ (fun ρn101 => ?_)
          refine cw_region rfl ?_
          refine rl (o_add64 (a := 1) (b := 1) rfl rfl (by omega) (by omega) ?_) rfl
          refine rl (o_move (v := .int .i64 (2)) rfl ?_) rfl
          refine rl_nil ?_
          refine k_tn ?_
          refine cwl_unroll ?_
          refine cw_seq ?_
          refine cw_region rfl ?_
          refine rl (o_lss rfl rfl ?_) rfl
          refine rl_nil ?_
          refine k_tn ?_
          refine cw_norm [(2, .pointer (some ⟨b7, 0, none⟩)), (5, .pointer (some ⟨b14, 0, none⟩)), (6, .int .u64 ((jget crcOf s0).2.1)), (13, .agg #[.slice a0 s0.length p0, .slice a1 s1.length p1]), (14, .int .i64 (2)), (15, .bool (false))] ⟨rfl, rfl, rfl, rfl, rfl, rfl, trivial⟩ (fun ρn102 => ?_)
          refine cw_seq ?_
          refine cw_condF rfl ?_
          refine cw_exit ?_
          refine k_te ?_
          refine k_te ?_
          refine k_bh ?_
          refine k_tn ?_
          refine cw_norm [(2, .pointer (some ⟨b7, 0, none⟩)), (5, .pointer (some ⟨b14, 0, none⟩)), (6, .int .u64 ((jget crcOf s0).2.1))] ⟨rfl, rfl, rfl, trivial⟩ (fun ρn103 => ?_)
          refine cw_reg rfl ?_
          refine rl (o_loadBA (ds := [.int .i64 ((jget crcOf s0).1.budget), .int .i64 ((jget crcOf s0).1.margin), .int .i64 ((jget crcOf s0).1.credit), .slice aoG0 ((jget crcOf s0).1.l.length) cG0]) rfl hB19 tyA32 rfl rfl ?_) rfl
          refine rl (o_move (v := .int .u64 ((jget crcOf s0).2.1)) rfl ?_) rfl
          refine rl (o_move (v := .int .u64 ((jget crcOf s0).2.1)) rfl ?_) rfl
          refine rl (o_gtr rfl rfl ?_) rfl
          refine rl0 (o_storeA (vs := [.int .i64 ((jget crcOf s0).1.budget), .int .i64 ((jget crcOf s0).1.margin), .int .i64 ((jget crcOf s0).1.credit), .slice aoG0 ((jget crcOf s0).1.l.length) cG0]) rfl rfl hB12 tyA32 rfl rfl (Nat.le_of_ble_eq_true rfl) (fun w104 hk105 hz106 hB107 => ?_)) rfl
          replace hB107 : Box w104 b7 [.int .i64 ((jget crcOf s0).1.budget), .int .i64 ((jget crcOf s0).1.margin), .int .i64 ((jget crcOf s0).1.credit), .slice aoG0 ((jget crcOf s0).1.l.length) cG0] 32 := hB107
          replace hK := hK.later hk105 (fun i hi hS => by have h1 : i = b7 := hS; omega)
          replace hB6 := hB6.kp hk105 (by show ¬ b1 = b7; omega)
          replace hB19 := hB19.kp hk105 (by show ¬ b14 = b7; omega)
          replace hB35 := hB35.kp hk105 (by show ¬ b30 = b7; omega)
          replace hB63 := hB63.kp hk105 (by show ¬ b58 = b7; omega)
          replace hT := hT.kp hk105 (fun h => by have h2 : (0 : Nat) = b7 := h; omega)
          replace hR0 := hR0.kp hk105 (fun i _ hF hS => by have h1 : i < w.heap.size := hF; have h2 : i = b7 := hS; omega)
          replace hR1 := hR1.kp hk105 (fun i _ hF hS => by have h1 : i < w.heap.size := hF; have h2 : i = b7 := hS; omega)
          replace hG0 := hG0.kp hk105 (fun i _ hF hS => by have h1 : w15.heap.size ≤ i ∧ i < w27.heap.size := hF; have h2 : i = b7 := hS; omega)
          replace hTr_w27 := hTr_w27.trans (hk105.mono (fun _ _ _ => trivial))
          replace hG1 := hG1.kp hk105 (fun i _ hF hS => by have h1 : w45.heap.size ≤ i ∧ i < w55.heap.size := hF; have h2 : i = b7 := hS; omega)
          replace hTr_w55 := hTr_w55.trans (hk105.mono (fun _ _ _ => trivial))
          replace hB12 := hB107
          refine rl (o_assign (v := .int .u64 ((jget crcOf s0).2.1)) rfl ?_) rfl
          refine rl (o_assign (v := .bool (decide (0 < (jget crcOf s0).2.1))) rfl ?_) rfl
          refine rl_nil ?_
          refine cw_ret ?_
          refine ret_intro (v := .tuple #[.agg #[.int .i64 ((jget crcOf s0).1.budget), .int .i64 ((jget crcOf s0).1.margin), .int .i64 ((jget crcOf s0).1.credit), .slice aoG0 ((jget crcOf s0).1.l.length) cG0], .int .u64 ((jget crcOf s0).2.1), .bool (decide (0 < (jget crcOf s0).2.1))]) (res_ok (vs := [.agg #[.int .i64 ((jget crcOf s0).1.budget), .int .i64 ((jget crcOf s0).1.margin), .int .i64 ((jget crcOf s0).1.credit), .slice aoG0 ((jget crcOf s0).1.l.length) cG0], .int .u64 ((jget crcOf s0).2.1), .bool (decide (0 < (jget crcOf s0).2.1))]) rfl ⟨⟨_, rfl, run_loadA tyA32 rfl (hB12.at_ 0 4)⟩, rfl, rfl, trivial⟩) hK ?_
          have e0 : jstep crcOf 0 s0 (.zero, 0) = ((jget crcOf s0).1, (jget crcOf s0).2.1) := jstep_t (by omega) (by omega) (by omega)
          have e1 : jstep crcOf 1 s1 ((jget crcOf s0).1, (jget crcOf s0).2.1) = ((jget crcOf s0).1, (jget crcOf s0).2.1) := jstep_f (by omega)
          have hj : (jload crcOf ⟨s0, s1, la, wa, wr⟩) = ((jget crcOf s0).1, (jget crcOf s0).2.1) := by (unfold jload; rw [e0, e1])
          rw [hj]
          exact ⟨_, aoG0, cG0, rfl, rfl, hG0.mono (fun b _ h => by have h1 : w15.heap.size ≤ b ∧ b < w27.heap.size := h; omega)⟩
      · skip
        refine cw_skip ?_
        refine k_bn ?_
        refine k_tn ?_
        refine cw_norm [(2, .pointer (some ⟨b7, 0, none⟩)), (5, .pointer (some ⟨b14, 0, none⟩)), (6, .int .u64 (0)), (13, .agg #[.slice a0 s0.length p0, .slice a1 s1.length p1]), (14, .int .i64 (0))] ⟨rfl, rfl, rfl, rfl, rfl, trivial⟩ (fun ρn108 => ?_)
        refine cw_region rfl ?_
        refine rl (o_add64 (a := 0) (b := 1) rfl rfl (by omega) (by omega) ?_) rfl
        refine rl (o_move (v := .int .i64 (1)) rfl ?_) rfl
        refine rl_nil ?_
        refine k_tn ?_
        refine cwl_unroll ?_
        refine cw_seq ?_
        refine cw_region rfl ?_
        refine rl (o_lss rfl rfl ?_) rfl
        refine rl_nil ?_
        refine k_tn ?_
        refine cw_norm [(2, .pointer (some ⟨b7, 0, none⟩)), (5, .pointer (some ⟨b14, 0, none⟩)), (6, .int .u64 (0)), (13, .agg #[.slice a0 s0.length p0, .slice a1 s1.length p1]), (14, .int .i64 (1)), (15, .bool (true))] ⟨rfl, rfl, rfl, rfl, rfl, rfl, trivial⟩ (fun ρn109 => ?_)
        refine cw_seq ?_
        refine cw_condT rfl ?_
        refine cw_skip ?_
        refine k_tn ?_
        refine cw_norm [(2, .pointer (some ⟨b7, 0, none⟩)), (5, .pointer (some ⟨b14, 0, none⟩)), (6, .int .u64 (0)), (13, .agg #[.slice a0 s0.length p0, .slice a1 s1.length p1]), (14, .int .i64 (1))] ⟨rfl, rfl, rfl, rfl, rfl, trivial⟩ (fun ρn110 => ?_)
        refine cw_seq ?_
        refine cw_block ?_
        refine cw_seq ?_
        refine cw_region rfl ?_
        refine rl (o_move (v := .int .i64 (1)) rfl ?_) rfl
        refine rl (o_indexV (cs := [.slice a0 s0.length p0, .slice a1 s1.length p1]) (v := .slice a1 s1.length p1) 1 rfl rfl Tryd.underlying25 tyS24 (by decide) rfl ?_) rfl
        refine rl (o_assign (v := .int .i64 (1)) rfl ?_) rfl
        refine rl (o_assign (v := .slice a1 s1.length p1) rfl ?_) rfl
        refine rl_nil ?_
        refine k_tn ?_
        refine cw_norm [(2, .pointer (some ⟨b7, 0, none⟩)), (5, .pointer (some ⟨b14, 0, none⟩)), (6, .int .u64 (0)), (7, .int .i64 (1)), (8, .slice a1 s1.length p1), (13, .agg #[.slice a0 s0.length p0, .slice a1 s1.length p1]), (14, .int .i64 (1))] ⟨rfl, rfl, rfl, rfl, rfl, rfl, rfl, trivial⟩ (fun ρn111 => ?_)
        refine cw_seq ?_
        refine cw_region rfl ?_
        refine rl (o_move (v := .slice a1 s1.length p1) rfl ?_) rfl
        refine rl (o_call (jget_ok a1 p1 s1 _ _ rfl hn1 hB1 hT hR1) Tryd.call27 (fun v112 w113 hk114 hv115 => ?_)) rfl
        have hl_b1_w113 := hB6.lt
        have hl_b7_w113 := hB12.lt
        have hl_b14_w113 := hB19.lt
        have hl_b30_w113 := hB35.lt
        have hs_w113 := hK.size
        obtain ⟨nG1, aoG1, cG1, rfl, hnG1, hG1⟩ := hv115
        replace hK := hK.trans (Kp.ext hk114)
        replace hB6 := hB6.ext hk114
        replace hB12 := hB12.ext hk114
        replace hB19 := hB19.ext hk114
        replace hB35 := hB35.ext hk114
        replace hT := hT.ext hk114
        replace hR0 := hR0.ext hk114
        replace hR1 := hR1.ext hk114
        replace hG0 := hG0.ext hk114
        replace hTr_w27 := hTr_w27.trans (Kp.ext hk114)
        subst hnG1
        replace hG1 := hG1.mono (G := fun b => w36.heap.size ≤ b ∧ b < w113.heap.size) (fun b hb h => ⟨h, hb⟩)
        have hTr_w113 := Kp.refl (fun _ => True) w113
        refine rl (o_move (v := .tuple #[.agg #[.int .i64 ((jget crcOf s1).1.budget), .int .i64 ((jget crcOf s1).1.margin), .int .i64 ((jget crcOf s1).1.credit), .slice aoG1 ((jget crcOf s1).1.l.length) cG1], .int .u64 ((jget crcOf s1).2.1), .int .i64 ((jget crcOf s1).2.2)]) rfl ?_) rfl
        refine rl (o_extract (vs := [.agg #[.int .i64 ((jget crcOf s1).1.budget), .int .i64 ((jget crcOf s1).1.margin), .int .i64 ((jget crcOf s1).1.credit), .slice aoG1 ((jget crcOf s1).1.l.length) cG1], .int .u64 ((jget crcOf s1).2.1), .int .i64 ((jget crcOf s1).2.2)]) (v := .agg #[.int .i64 ((jget crcOf s1).1.budget), .int .i64 ((jget crcOf s1).1.margin), .int .i64 ((jget crcOf s1).1.credit), .slice aoG1 ((jget crcOf s1).1.l.length) cG1]) rfl rfl ?_) rfl
        refine rl (o_extract (vs := [.agg #[.int .i64 ((jget crcOf s1).1.budget), .int .i64 ((jget crcOf s1).1.margin), .int .i64 ((jget crcOf s1).1.credit), .slice aoG1 ((jget crcOf s1).1.l.length) cG1], .int .u64 ((jget crcOf s1).2.1), .int .i64 ((jget crcOf s1).2.2)]) (v := .int .u64 ((jget crcOf s1).2.1)) rfl rfl ?_) rfl
        refine rl (o_extract (vs := [.agg #[.int .i64 ((jget crcOf s1).1.budget), .int .i64 ((jget crcOf s1).1.margin), .int .i64 ((jget crcOf s1).1.credit), .slice aoG1 ((jget crcOf s1).1.l.length) cG1], .int .u64 ((jget crcOf s1).2.1), .int .i64 ((jget crcOf s1).2.2)]) (v := .int .i64 ((jget crcOf s1).2.2)) rfl rfl ?_) rfl
        refine rl (o_alloc Tryd.zeroValue32 (fun b116 w117 hb118 hz119 hk120 hB121 => ?_)) rfl
        replace hB121 : Box w117 b116 [.int .i64 (0), .int .i64 (0), .int .i64 (0), .slice none 0 0] 32 := hB121
        have hs_b116 := hK.size
        have hl_b1_b116 := hB6.lt
        have hl_b7_b116 := hB12.lt
        have hl_b14_b116 := hB19.lt
        have hl_b30_b116 := hB35.lt
        have ht_hTr_w27_b116 := hTr_w27.size
        have ht_hTr_w113_b116 := hTr_w113.size
        replace hK := hK.trans (Kp.ext hk120)
        replace hB6 := hB6.ext hk120
        replace hB12 := hB12.ext hk120
        replace hB19 := hB19.ext hk120
        replace hB35 := hB35.ext hk120
        replace hT := hT.ext hk120
        replace hR0 := hR0.ext hk120
        replace hR1 := hR1.ext hk120
        replace hG0 := hG0.ext hk120
        replace hTr_w27 := hTr_w27.trans (Kp.ext hk120)
        replace hG1 := hG1.ext hk120
        replace hTr_w113 := hTr_w113.trans (Kp.ext hk120)
        refine rl0 (o_storeA (vs := [.int .i64 ((jget crcOf s1).1.budget), .int .i64 ((jget crcOf s1).1.margin), .int .i64 ((jget crcOf s1).1.credit), .slice aoG1 ((jget crcOf s1).1.l.length) cG1]) rfl rfl hB121 tyA32 rfl rfl (Nat.le_of_ble_eq_true rfl) (fun w122 hk123 hz124 hB125 => ?_)) rfl
        replace hB125 : Box w122 b116 [.int .i64 ((jget crcOf s1).1.budget), .int .i64 ((jget crcOf s1).1.margin), .int .i64 ((jget crcOf s1).1.credit), .slice aoG1 ((jget crcOf s1).1.l.length) cG1] 32 := hB125
        replace hK := hK.later hk123 (fun i hi hS => by have h1 : i = b116 := hS; omega)
        replace hB6 := hB6.kp hk123 (by show ¬ b1 = b116; omega)
        replace hB12 := hB12.kp hk123 (by show ¬ b7 = b116; omega)
        replace hB19 := hB19.kp hk123 (by show ¬ b14 = b116; omega)
        replace hB35 := hB35.kp hk123 (by show ¬ b30 = b116; omega)
        replace hT := hT.kp hk123 (fun h => by have h2 : (0 : Nat) = b116 := h; omega)
        replace hR0 := hR0.kp hk123 (fun i _ hF hS => by have h1 : i < w.heap.size := hF; have h2 : i = b116 := hS; omega)
        replace hR1 := hR1.kp hk123 (fun i _ hF hS => by have h1 : i < w.heap.size := hF; have h2 : i = b116 := hS; omega)
        replace hG0 := hG0.kp hk123 (fun i _ hF hS => by have h1 : w15.heap.size ≤ i ∧ i < w27.heap.size := hF; have h2 : i = b116 := hS; omega)
        replace hTr_w27 := hTr_w27.trans (hk123.mono (fun _ _ _ => trivial))
        replace hG1 := hG1.kp hk123 (fun i _ hF hS => by have h1 : w36.heap.size ≤ i ∧ i < w113.heap.size := hF; have h2 : i = b116 := hS; omega)
        replace hTr_w113 := hTr_w113.trans (hk123.mono (fun _ _ _ => trivial))
        replace hB121 := hB125
        refine rl (o_assign (v := .int .u64 ((jget crcOf s1).2.1)) rfl ?_) rfl
        refine rl (o_assign (v := .int .i64 ((jget crcOf s1).2.2)) rfl ?_) rfl
        refine rl_nil ?_
        refine k_tn ?_
        refine cw_norm [(2, .pointer (some ⟨b7, 0, none⟩)), (5, .pointer (some ⟨b14, 0, none⟩)), (6, .int .u64 (0)), (7, .int .i64 (1)), (9, .pointer (some ⟨b116, 0, none⟩)), (10, .int .u64 ((jget crcOf s1).2.1)), (11, .int .i64 ((jget crcOf s1).2.2)), (13, .agg #[.slice a0 s0.length p0, .slice a1 s1.length p1]), (14, .int .i64 (1))] ⟨rfl, rfl, rfl, rfl, rfl, rfl, rfl, rfl, rfl, trivial⟩ (fun ρn126 => ?_)
        refine cw_seq ?_
        refine cw_region rfl ?_
        refine rl (o_move (v := .int .i64 ((jget crcOf s1).2.2)) rfl ?_) rfl
        refine rl (o_eql rfl rfl ?_) rfl
        refine rl (o_move (v := .bool (decide ((jget crcOf s1).2.2 = 0))) rfl ?_) rfl
        by_cases h127 : (jget crcOf s1).2.2 = 0
        · skip
          refine rl (o_move (v := .int .u64 ((jget crcOf s1).2.1)) rfl ?_) (want_t rfl (decide_eq_true h127))
          refine rl (o_rem rfl rfl (by decide) hq1.1 ?_) (want_t rfl (decide_eq_true h127))
          refine rl (o_move (v := .int .i64 (1)) rfl ?_) (want_t rfl (decide_eq_true h127))
          refine rl (o_convI (a := 1) rfl ⟨_, Tryd.underlying3⟩ Tryd.underlying36 (by show (0 : Int) ≤ _; omega) (by show _ ≤ (18446744073709551615 : Int); omega) ?_) (want_t rfl (decide_eq_true h127))
          refine rl (o_eql rfl rfl ?_) (want_t rfl (decide_eq_true h127))
          refine rl (o_pickT (v := .bool (decide ((jget crcOf s1).2.1 % 2 = 1))) rfl (decide_eq_true h127) rfl ?_) rfl
          refine rl (o_move (v := .bool (decide ((jget crcOf s1).2.1 % 2 = 1))) rfl ?_) rfl
          by_cases h128 : (jget crcOf s1).2.1 % 2 = 1
          · skip
            refine rl (o_move (v := .int .u64 ((jget crcOf s1).2.1)) rfl ?_) (want_t rfl (decide_eq_true h128))
            refine rl (o_move (v := .int .u64 (0)) rfl ?_) (want_t rfl (decide_eq_true h128))
            refine rl (o_gtr rfl rfl ?_) (want_t rfl (decide_eq_true h128))
            refine rl (o_pickT (v := .bool (decide (0 < (jget crcOf s1).2.1))) rfl (decide_eq_true h128) rfl ?_) rfl
            refine rl_nil ?_
            refine k_tn ?_
            refine cw_norm [(2, .pointer (some ⟨b7, 0, none⟩)), (5, .pointer (some ⟨b14, 0, none⟩)), (6, .int .u64 (0)), (9, .pointer (some ⟨b116, 0, none⟩)), (10, .int .u64 ((jget crcOf s1).2.1)), (13, .agg #[.slice a0 s0.length p0, .slice a1 s1.length p1]), (14, .int .i64 (1)), (37, .bool (decide (0 < (jget crcOf s1).2.1)))] ⟨rfl, rfl, rfl, rfl, rfl, rfl, rfl, rfl, trivial⟩ (fun ρn129 => ?_)
            refine cw_if rfl (fun h130 => ?_) (fun h130 => ?_)
            · skip
              refine cw_seq ?_
              refine cw_region rfl ?_
              refine rl (o_loadBA (ds := [.int .i64 ((jget crcOf s1).1.budget), .int .i64 ((jget crcOf s1).1.margin), .int .i64 ((jget crcOf s1).1.credit), .slice aoG1 ((jget crcOf s1).1.l.length) cG1]) rfl hB121 tyA32 rfl rfl ?_) rfl
              refine rl0 (o_storeA (vs := [.int .i64 ((jget crcOf s1).1.budget), .int .i64 ((jget crcOf s1).1.margin), .int .i64 ((jget crcOf s1).1.credit), .slice aoG1 ((jget crcOf s1).1.l.length) cG1]) rfl rfl hB19 tyA32 rfl rfl (Nat.le_of_ble_eq_true rfl) (fun w131 hk132 hz133 hB134 => ?_)) rfl
              replace hB134 : Box w131 b14 [.int .i64 ((jget crcOf s1).1.budget), .int .i64 ((jget crcOf s1).1.margin), .int .i64 ((jget crcOf s1).1.credit), .slice aoG1 ((jget crcOf s1).1.l.length) cG1] 32 := hB134
              replace hK := hK.later hk132 (fun i hi hS => by have h1 : i = b14 := hS; omega)
              replace hB6 := hB6.kp hk132 (by show ¬ b1 = b14; omega)
              replace hB12 := hB12.kp hk132 (by show ¬ b7 = b14; omega)
              replace hB35 := hB35.kp hk132 (by show ¬ b30 = b14; omega)
              replace hB121 := hB121.kp hk132 (by show ¬ b116 = b14; omega)
              replace hT := hT.kp hk132 (fun h => by have h2 : (0 : Nat) = b14 := h; omega)
              replace hR0 := hR0.kp hk132 (fun i _ hF hS => by have h1 : i < w.heap.size := hF; have h2 : i = b14 := hS; omega)
              replace hR1 := hR1.kp hk132 (fun i _ hF hS => by have h1 : i < w.heap.size := hF; have h2 : i = b14 := hS; omega)
              replace hG0 := hG0.kp hk132 (fun i _ hF hS => by have h1 : w15.heap.size ≤ i ∧ i < w27.heap.size := hF; have h2 : i = b14 := hS; omega)
              replace hTr_w27 := hTr_w27.trans (hk132.mono (fun _ _ _ => trivial))
              replace hG1 := hG1.kp hk132 (fun i _ hF hS => by have h1 : w36.heap.size ≤ i ∧ i < w113.heap.size := hF; have h2 : i = b14 := hS; omega)
              replace hTr_w113 := hTr_w113.trans (hk132.mono (fun _ _ _ => trivial))
              replace hB19 := hB134
              refine rl_nil ?_
              refine k_tn ?_
              refine cw_norm [(2, .pointer (some ⟨b7, 0, none⟩)), (5, .pointer (some ⟨b14, 0, none⟩)), (10, .int .u64 ((jget crcOf s1).2.1)), (13, .agg #[.slice a0 s0.length p0, .slice a1 s1.length p1]), (14, .int .i64 (1))] ⟨rfl, rfl, rfl, rfl, rfl, trivial⟩ (fun ρn135 => ?_)
              refine cw_region rfl ?_
              refine rl (o_move (v := .int .u64 ((jget crcOf s1).2.1)) rfl ?_) rfl
              refine rl (o_assign (v := .int .u64 ((jget crcOf s1).2.1)) rfl ?_) rfl
              refine rl_nil ?_
              refine k_bn ?_
              refine k_tn ?_
              refine cw_norm [(2, .pointer (some ⟨b7, 0, none⟩)), (5, .pointer (some ⟨b14, 0, none⟩)), (6, .int .u64 ((jget crcOf s1).2.1)), (13, .agg #[.slice a0 s0.length p0, .slice a1 s1.length p1]), (14, .int .i64 (1))] ⟨rfl, rfl, rfl, rfl, rfl, trivial⟩ (fun ρn136 => ?_)
              refine cw_region rfl ?_
              refine rl (o_add64 (a := 1) (b := 1) rfl rfl (by omega) (by omega) ?_) rfl
              refine rl (o_move (v := .int .i64 (2)) rfl ?_) rfl
              refine rl_nil ?_
              refine k_tn ?_
              refine cwl_unroll ?_
              refine cw_seq ?_
              refine cw_region rfl ?_
              refine rl (o_lss rfl rfl ?_) rfl
              refine rl_nil ?_
              refine k_tn ?_
              refine cw_norm [(2, .pointer (some ⟨b7, 0, none⟩)), (5, .pointer (some ⟨b14, 0, none⟩)), (6, .int .u64 ((jget crcOf s1).2.1)), (13, .agg #[.slice a0 s0.length p0, .slice a1 s1.length p1]), (14, .int .i64 (2)), (15, .bool (false))] ⟨rfl, rfl, rfl, rfl, rfl, rfl, trivial⟩ (fun ρn137 => ?_)
              refine cw_seq ?_
              refine cw_condF rfl ?_
              refine cw_exit ?_
              refine k_te ?_
              refine k_te ?_
              refine k_bh ?_
              refine k_tn ?_
              refine cw_norm [(2, .pointer (some ⟨b7, 0, none⟩)), (5, .pointer (some ⟨b14, 0, none⟩)), (6, .int .u64 ((jget crcOf s1).2.1))] ⟨rfl, rfl, rfl, trivial⟩ (fun ρn138 => ?_)
              refine cw_reg rfl ?_
              refine rl (o_loadBA (ds := [.int .i64 ((jget crcOf s1).1.budget), .int .i64 ((jget crcOf s1).1.margin), .int .i64 ((jget crcOf s1).1.credit), .slice aoG1 ((jget crcOf s1).1.l.length) cG1]) rfl hB19 tyA32 rfl rfl ?_) rfl
              refine rl (o_move (v := .int .u64 ((jget crcOf s1).2.1)) rfl ?_) rfl
              refine rl (o_move (v := .int .u64 ((jget crcOf s1).2.1)) rfl ?_) rfl
              refine rl (o_gtr rfl rfl ?_) rfl
              refine rl0 (o_storeA (vs := [.int .i64 ((jget crcOf s1).1.budget), .int .i64 ((jget crcOf s1).1.margin), .int .i64 ((jget crcOf s1).1.credit), .slice aoG1 ((jget crcOf s1).1.l.length) cG1]) rfl rfl hB12 tyA32 rfl rfl (Nat.le_of_ble_eq_true rfl) (fun w139 hk140 hz141 hB142 => ?_)) rfl
              replace hB142 : Box w139 b7 [.int .i64 ((jget crcOf s1).1.budget), .int .i64 ((jget crcOf s1).1.margin), .int .i64 ((jget crcOf s1).1.credit), .slice aoG1 ((jget crcOf s1).1.l.length) cG1] 32 := hB142
              replace hK := hK.later hk140 (fun i hi hS => by have h1 : i = b7 := hS; omega)
              replace hB6 := hB6.kp hk140 (by show ¬ b1 = b7; omega)
              replace hB19 := hB19.kp hk140 (by show ¬ b14 = b7; omega)
              replace hB35 := hB35.kp hk140 (by show ¬ b30 = b7; omega)
              replace hB121 := hB121.kp hk140 (by show ¬ b116 = b7; omega)
              replace hT := hT.kp hk140 (fun h => by have h2 : (0 : Nat) = b7 := h; omega)
              replace hR0 := hR0.kp hk140 (fun i _ hF hS => by have h1 : i < w.heap.size := hF; have h2 : i = b7 := hS; omega)
              replace hR1 := hR1.kp hk140 (fun i _ hF hS => by have h1 : i < w.heap.size := hF; have h2 : i = b7 := hS; omega)
              replace hG0 := hG0.kp hk140 (fun i _ hF hS => by have h1 : w15.heap.size ≤ i ∧ i < w27.heap.size := hF; have h2 : i = b7 := hS; omega)
              replace hTr_w27 := hTr_w27.trans (hk140.mono (fun _ _ _ => trivial))
              replace hG1 := hG1.kp hk140 (fun i _ hF hS => by have h1 : w36.heap.size ≤ i ∧ i < w113.heap.size := hF; have h2 : i = b7 := hS; omega)
              replace hTr_w113 := hTr_w113.trans (hk140.mono (fun _ _ _ => trivial))
              replace hB12 := hB142
              refine rl (o_assign (v := .int .u64 ((jget crcOf s1).2.1)) rfl ?_) rfl
              refine rl (o_assign (v := .bool (decide (0 < (jget crcOf s1).2.1))) rfl ?_) rfl
              refine rl_nil ?_
              refine cw_ret ?_
              refine ret_intro (v := .tuple #[.agg #[.int .i64 ((jget crcOf s1).1.budget), .int .i64 ((jget crcOf s1).1.margin), .int .i64 ((jget crcOf s1).1.credit), .slice aoG1 ((jget crcOf s1).1.l.length) cG1], .int .u64 ((jget crcOf s1).2.1), .bool (decide (0 < (jget crcOf s1).2.1))]) (res_ok (vs := [.agg #[.int .i64 ((jget crcOf s1).1.budget), .int .i64 ((jget crcOf s1).1.margin), .int .i64 ((jget crcOf s1).1.credit), .slice aoG1 ((jget crcOf s1).1.l.length) cG1], .int .u64 ((jget crcOf s1).2.1), .bool (decide (0 < (jget crcOf s1).2.1))]) rfl ⟨⟨_, rfl, run_loadA tyA32 rfl (hB12.at_ 0 4)⟩, rfl, rfl, trivial⟩) hK ?_
              have e0 : jstep crcOf 0 s0 (.zero, 0) = (.zero, 0) := jstep_f (by omega)
              have e1 : jstep crcOf 1 s1 (.zero, 0) = ((jget crcOf s1).1, (jget crcOf s1).2.1) := jstep_t (by omega) (by omega) (by omega)
              have hj : (jload crcOf ⟨s0, s1, la, wa, wr⟩) = ((jget crcOf s1).1, (jget crcOf s1).2.1) := by (unfold jload; rw [e0, e1])
              rw [hj]
              exact ⟨_, aoG1, cG1, rfl, rfl, hG1.mono (fun b _ h => by have h1 : w36.heap.size ≤ b ∧ b < w113.heap.size := h; omega)⟩
            · skip
              refine cw_skip ?_
              refine k_bn ?_
              refine k_tn ?_
              refine cw_norm [(2, .pointer (some ⟨b7, 0, none⟩)), (5, .pointer (some ⟨b14, 0, none⟩)), (6, .int .u64 (0)), (13, .agg #[.slice a0 s0.length p0, .slice a1 s1.length p1]), (14, .int .i64 (1))] ⟨rfl, rfl, rfl, rfl, rfl, trivial⟩ (fun ρn143 => ?_)
              refine cw_region rfl ?_
              refine rl (o_add64 (a := 1) (b := 1) rfl rfl (by omega) (by omega) ?_) rfl
              refine rl (o_move (v := .int .i64 (2)) rfl ?_) rfl
              refine rl_nil ?_
              refine k_tn ?_
              refine cwl_unroll ?_
              refine cw_seq ?_
              refine cw_region rfl ?_
              refine rl (o_lss rfl rfl ?_) rfl
              refine rl_nil ?_
              refine k_tn ?_
              refine cw_norm [(2, .pointer (some ⟨b7, 0, none⟩)), (5, .pointer (some ⟨b14, 0, none⟩)), (6, .int .u64 (0)), (13, .agg #[.slice a0 s0.length p0, .slice a1 s1.length p1]), (14, .int .i64 (2)), (15, .bool (false))] ⟨rfl, rfl, rfl, rfl, rfl, rfl, trivial⟩ (fun ρn144 => ?_)
              refine cw_seq ?_
              refine cw_condF rfl ?_
              refine cw_exit ?_
              refine k_te ?_
              refine k_te ?_
              refine k_bh ?_
              refine k_tn ?_
              refine cw_norm [(2, .pointer (some ⟨b7, 0, none⟩)), (5, .pointer (some ⟨b14, 0, none⟩)), (6, .int .u64 (0))] ⟨rfl, rfl, rfl, trivial⟩ (fun ρn145 => ?_)
              refine cw_reg rfl ?_
              refine rl (o_loadBA (ds := [.int .i64 (0), .int .i64 (0), .int .i64 (0), .slice none 0 0]) rfl hB19 tyA32 rfl rfl ?_) rfl
              refine rl (o_move (v := .int .u64 (0)) rfl ?_) rfl
              refine rl (o_move (v := .int .u64 (0)) rfl ?_) rfl
              refine rl (o_gtr rfl rfl ?_) rfl
              refine rl0 (o_storeA (vs := [.int .i64 (0), .int .i64 (0), .int .i64 (0), .slice none 0 0]) rfl rfl hB12 tyA32 rfl rfl (Nat.le_of_ble_eq_true rfl) (fun w146 hk147 hz148 hB149 => ?_)) rfl
              replace hB149 : Box w146 b7 [.int .i64 (0), .int .i64 (0), .int .i64 (0), .slice none 0 0] 32 := hB149
              replace hK := hK.later hk147 (fun i hi hS => by have h1 : i = b7 := hS; omega)
              replace hB6 := hB6.kp hk147 (by show ¬ b1 = b7; omega)
              replace hB19 := hB19.kp hk147 (by show ¬ b14 = b7; omega)
              replace hB35 := hB35.kp hk147 (by show ¬ b30 = b7; omega)
              replace hB121 := hB121.kp hk147 (by show ¬ b116 = b7; omega)
              replace hT := hT.kp hk147 (fun h => by have h2 : (0 : Nat) = b7 := h; omega)
              replace hR0 := hR0.kp hk147 (fun i _ hF hS => by have h1 : i < w.heap.size := hF; have h2 : i = b7 := hS; omega)
              replace hR1 := hR1.kp hk147 (fun i _ hF hS => by have h1 : i < w.heap.size := hF; have h2 : i = b7 := hS; omega)
              replace hG0 := hG0.kp hk147 (fun i _ hF hS => by have h1 : w15.heap.size ≤ i ∧ i < w27.heap.size := hF; have h2 : i = b7 := hS; omega)
              replace hTr_w27 := hTr_w27.trans (hk147.mono (fun _ _ _ => trivial))
              replace hG1 := hG1.kp hk147 (fun i _ hF hS => by have h1 : w36.heap.size ≤ i ∧ i < w113.heap.size := hF; have h2 : i = b7 := hS; omega)
              replace hTr_w113 := hTr_w113.trans (hk147.mono (fun _ _ _ => trivial))
              replace hB12 := hB149
              refine rl (o_assign (v := .int .u64 (0)) rfl ?_) rfl
              refine rl (o_assign (v := .bool (false)) rfl ?_) rfl
              refine rl_nil ?_
              refine cw_ret ?_
              refine ret_intro (v := .tuple #[.agg #[.int .i64 (0), .int .i64 (0), .int .i64 (0), .slice none 0 0], .int .u64 (0), .bool (false)]) (res_ok (vs := [.agg #[.int .i64 (0), .int .i64 (0), .int .i64 (0), .slice none 0 0], .int .u64 (0), .bool (false)]) rfl ⟨⟨_, rfl, run_loadA tyA32 rfl (hB12.at_ 0 4)⟩, rfl, rfl, trivial⟩) hK ?_
              have e0 : jstep crcOf 0 s0 (.zero, 0) = (.zero, 0) := jstep_f (by omega)
              have e1 : jstep crcOf 1 s1 (.zero, 0) = (.zero, 0) := jstep_f (by omega)
              have hj : (jload crcOf ⟨s0, s1, la, wa, wr⟩) = (.zero, 0) := by (unfold jload; rw [e0, e1])
              rw [hj]
              exact ⟨0, none, 0, rfl, rfl, Rd.nil _ _⟩
          · skip
            refine rlo ?_ (want_f rfl (decide_eq_false h128) (by decide))
            refine rlo ?_ (want_f rfl (decide_eq_false h128) (by decide))
            refine rlo ?_ (want_f rfl (decide_eq_false h128) (by decide))
            refine rl (o_pickF (v := .bool (false)) rfl (decide_eq_false h128) rfl ?_) rfl
            refine rl_nil ?_
            refine k_tn ?_
            refine cw_norm [(2, .pointer (some ⟨b7, 0, none⟩)), (5, .pointer (some ⟨b14, 0, none⟩)), (6, .int .u64 (0)), (9, .pointer (some ⟨b116, 0, none⟩)), (10, .int .u64 ((jget crcOf s1).2.1)), (13, .agg #[.slice a0 s0.length p0, .slice a1 s1.length p1]), (14, .int .i64 (1)), (37, .bool (false))] ⟨rfl, rfl, rfl, rfl, rfl, rfl, rfl, rfl, trivial⟩ (fun ρn150 => ?_)
            refine cw_condF rfl ?_
            refine cw_skip ?_
            refine k_bn ?_
            refine k_tn ?_
            refine cw_norm [(2, .pointer (some ⟨b7, 0, none⟩)), (5, .pointer (some ⟨b14, 0, none⟩)), (6, .int .u64 (0)), (13, .agg #[.slice a0 s0.length p0, .slice a1 s1.length p1]), (14, .int .i64 (1))] ⟨rfl, rfl, rfl, rfl, rfl, trivial⟩ (fun ρn151 => ?_)
            refine cw_region rfl ?_
            refine rl (o_add64 (a := 1) (b := 1) rfl rfl (by omega) (by omega) ?_) rfl
            refine rl (o_move (v := .int .i64 (2)) rfl ?_) rfl
            refine rl_nil ?_
            refine k_tn ?_
            refine cwl_unroll ?_
            refine cw_seq ?_
            refine cw_region rfl ?_
            refine rl (o_lss rfl rfl ?_) rfl
            refine rl_nil ?_
            refine k_tn ?_
            refine cw_norm [(2, .pointer (some ⟨b7, 0, none⟩)), (5, .pointer (some ⟨b14, 0, none⟩)), (6, .int .u64 (0)), (13, .agg #[.slice a0 s0.length p0, .slice a1 s1.length p1]), (14, .int .i64 (2)), (15, .bool (false))] ⟨rfl, rfl, rfl, rfl, rfl, rfl, trivial⟩ (fun ρn152 => ?_)
            refine cw_seq ?_
            refine cw_condF rfl ?_
            refine cw_exit ?_
            refine k_te ?_
            refine k_te ?_
            refine k_bh ?_
            refine k_tn ?_
            refine cw_norm [(2, .pointer (some ⟨b7, 0, none⟩)), (5, .pointer (some ⟨b14, 0, none⟩)), (6, .int .u64 (0))] ⟨rfl, rfl, rfl, trivial⟩ (fun ρn153 => ?_)
            refine cw_reg rfl ?_
            refine rl (o_loadBA (ds := [.int .i64 (0), .int .i64 (0), .int .i64 (0), .slice none 0 0]) rfl hB19 tyA32 rfl rfl ?_) rfl
            refine rl (o_move (v := .int .u64 (0)) rfl ?_) rfl
            refine rl (o_move (v := .int .u64 (0)) rfl ?_) rfl
            refine rl (o_gtr rfl rfl ?_) rfl
            refine rl0 (o_storeA (vs := [.int .i64 (0), .int .i64 (0), .int .i64 (0), .slice none 0 0]) rfl rfl hB12 tyA32 rfl rfl (Nat.le_of_ble_eq_true rfl) (fun w154 hk155 hz156 hB157 => ?_)) rfl
            replace hB157 : Box w154 b7 [.int .i64 (0), .int .i64 (0), .int .i64 (0), .slice none 0 0] 32 := hB157
            replace hK := hK.later hk155 (fun i hi hS => by have h1 : i = b7 := hS; omega)
            replace hB6 := hB6.kp hk155 (by show ¬ b1 = b7; omega)
            replace hB19 := hB19.kp hk155 (by show ¬ b14 = b7; omega)
            replace hB35 := hB35.kp hk155 (by show ¬ b30 = b7; omega)
            replace hB121 := hB121.kp hk155 (by show ¬ b116 = b7; omega)
            replace hT := hT.kp hk155 (fun h => by have h2 : (0 : Nat) = b7 := h; omega)
            replace hR0 := hR0.kp hk155 (fun i _ hF hS => by have h1 : i < w.heap.size := hF; have h2 : i = b7 := hS; omega)
            replace hR1 := hR1.kp hk155 (fun i _ hF hS => by have h1 : i < w.heap.size := hF; have h2 : i = b7 := hS; omega)
            replace hG0 := hG0.kp hk155 (fun i _ hF hS => by have h1 : w15.heap.size ≤ i ∧ i < w27.heap.size := hF; have h2 : i = b7 := hS; omega)
            replace hTr_w27 := hTr_w27.trans (hk155.mono (fun _ _ _ => trivial))
            replace hG1 := hG1.kp hk155 (fun i _ hF hS => by have h1 : w36.heap.size ≤ i ∧ i < w113.heap.size := hF; have h2 : i = b7 := hS; omega)
            replace hTr_w113 := hTr_w113.trans (hk155.mono (fun _ _ _ => trivial))
            replace hB12 := hB157
            refine rl (o_assign (v := .int .u64 (0)) rfl ?_) rfl
            refine rl (o_assign (v := .bool (false)) rfl ?_) rfl
            refine rl_nil ?_
            refine cw_ret ?_
            refine ret_intro (v := .tuple #[.agg #[.int .i64 (0), .int .i64 (0), .int .i64 (0), .slice none 0 0], .int .u64 (0), .bool (false)]) (res_ok (vs := [.agg #[.int .i64 (0), .int .i64 (0), .int .i64 (0), .slice none 0 0], .int .u64 (0), .bool (false)]) rfl ⟨⟨_, rfl, run_loadA tyA32 rfl (hB12.at_ 0 4)⟩, rfl, rfl, trivial⟩) hK ?_
            have e0 : jstep crcOf 0 s0 (.zero, 0) = (.zero, 0) := jstep_f (by omega)
            have e1 : jstep crcOf 1 s1 (.zero, 0) = (.zero, 0) := jstep_f (by omega)
            have hj : (jload crcOf ⟨s0, s1, la, wa, wr⟩) = (.zero, 0) := by (unfold jload; rw [e0, e1])
            rw [hj]
            exact ⟨0, none, 0, rfl, rfl, Rd.nil _ _⟩
        · skip
          refine rlo ?_ (want_f rfl (decide_eq_false h127) (by decide))
          refine rlo ?_ (want_f rfl (decide_eq_false h127) (by decide))
          refine rlo ?_ (want_f rfl (decide_eq_false h127) (by decide))
          refine rlo ?_ (want_f rfl (decide_eq_false h127) (by decide))
          refine rlo ?_ (want_f rfl (decide_eq_false h127) (by decide))
          refine rl (o_pickF (v := .bool (false)) rfl (decide_eq_false h127) rfl ?_) rfl
          refine rl (o_move (v := .bool (false)) rfl ?_) rfl
          refine rlo ?_ (want_f rfl (rfl) (by decide))
          refine rlo ?_ (want_f rfl (rfl) (by decide))
          refine rlo ?_ (want_f rfl (rfl) (by decide))
          refine rl (o_pickF (v := .bool (false)) rfl (rfl) rfl ?_) rfl
          refine rl_nil ?_
          refine k_tn ?_
          refine cw_norm [(2, .pointer (some ⟨b7, 0, none⟩)), (5, .pointer (some ⟨b14, 0, none⟩)), (6, .int .u64 (0)), (9, .pointer (some ⟨b116, 0, none⟩)), (10, .int .u64 ((jget crcOf s1).2.1)), (13, .agg #[.slice a0 s0.length p0, .slice a1 s1.length p1]), (14, .int .i64 (1)), (37, .bool (false))] ⟨rfl, rfl, rfl, rfl, rfl, rfl, rfl, rfl, trivial⟩ (fun ρn158 => ?_)
          refine cw_condF rfl ?_
          refine cw_skip ?_
          refine k_bn ?_
          refine k_tn ?_
          refine cw_norm [(2, .pointer (some ⟨b7, 0, none⟩)), (5, .pointer (some ⟨b14, 0, none⟩)), (6, .int .u64 (0)), (13, .agg #[.slice a0 s0.length p0, .slice a1 s1.length p1]), (14, .int .i64 (1))] ⟨rfl, rfl, rfl, rfl, rfl, trivial⟩ (fun ρn159 => ?_)
          refine cw_region rfl ?_
          refine rl (o_add64 (a := 1) (b := 1) rfl rfl (by omega) (by omega) ?_) rfl
          refine rl (o_move (v := .int .i64 (2)) rfl ?_) rfl
          refine rl_nil ?_
          refine k_tn ?_
          refine cwl_unroll ?_
          refine cw_seq ?_
          refine cw_region rfl ?_
          refine rl (o_lss rfl rfl ?_) rfl
          refine rl_nil ?_
          refine k_tn ?_
          refine cw_norm [(2, .pointer (some ⟨b7, 0, none⟩)), (5, .pointer (some ⟨b14, 0, none⟩)), (6, .int .u64 (0)), (13, .agg #[.slice a0 s0.length p0, .slice a1 s1.length p1]), (14, .int .i64 (2)), (15, .bool (false))] ⟨rfl, rfl, rfl, rfl, rfl, rfl, trivial⟩ (fun ρn160 => ?_)
          refine cw_seq ?_
          refine cw_condF rfl ?_
          refine cw_exit ?_
          refine k_te ?_
          refine k_te ?_
          refine k_bh ?_
          refine k_tn ?_
          refine cw_norm [(2, .pointer (some ⟨b7, 0, none⟩)), (5, .pointer (some ⟨b14, 0, none⟩)), (6, .int .u64 (0))] ⟨rfl, rfl, rfl, trivial⟩ (fun ρn161 => ?_)
          refine cw_reg rfl ?_
          refine rl (o_loadBA (ds := [.int .i64 (0), .int .i64 (0), .int .i64 (0), .slice none 0 0]) rfl hB19 tyA32 rfl rfl ?_) rfl
          refine rl (o_move (v := .int .u64 (0)) rfl ?_) rfl
          refine rl (o_move (v := .int .u64 (0)) rfl ?_) rfl
          refine rl (o_gtr rfl rfl ?_) rfl
          refine rl0 (o_storeA (vs := [.int .i64 (0), .int .i64 (0), .int .i64 (0), .slice none 0 0]) rfl rfl hB12 tyA32 rfl rfl (Nat.le_of_ble_eq_true rfl) (fun w162 hk163 hz164 hB165 => ?_)) rfl
          replace hB165 : Box w162 b7 [.int .i64 (0), .int .i64 (0), .int .i64 (0), .slice none 0 0] 32 := hB165
          replace hK := hK.later hk163 (fun i hi hS => by have h1 : i = b7 := hS; omega)
          replace hB6 := hB6.kp hk163 (by show ¬ b1 = b7; omega)
          replace hB19 := hB19.kp hk163 (by show ¬ b14 = b7; omega)
          replace hB35 := hB35.kp hk163 (by show ¬ b30 = b7; omega)
          replace hB121 := hB121.kp hk163 (by show ¬ b116 = b7; omega)
          replace hT := hT.kp hk163 (fun h => by have h2 : (0 : Nat) = b7 := h; omega)
          replace hR0 := hR0.kp hk163 (fun i _ hF hS => by have h1 : i < w.heap.size := hF; have h2 : i = b7 := hS; omega)
          replace hR1 := hR1.kp hk163 (fun i _ hF hS => by have h1 : i < w.heap.size := hF; have h2 : i = b7 := hS; omega)
          replace hG0 := hG0.kp hk163 (fun i _ hF hS => by have h1 : w15.heap.size ≤ i ∧ i < w27.heap.size := hF; have h2 : i = b7 := hS; omega)
          replace hTr_w27 := hTr_w27.trans (hk163.mono (fun _ _ _ => trivial))
          replace hG1 := hG1.kp hk163 (fun i _ hF hS => by have h1 : w36.heap.size ≤ i ∧ i < w113.heap.size := hF; have h2 : i = b7 := hS; omega)
          replace hTr_w113 := hTr_w113.trans (hk163.mono (fun _ _ _ => trivial))
          replace hB12 := hB165
          refine rl (o_assign (v := .int .u64 (0)) rfl ?_) rfl
          refine rl (o_assign (v := .bool (false)) rfl ?_) rfl
          refine rl_nil ?_
          refine cw_ret ?_
          refine ret_intro (v := .tuple #[.agg #[.int .i64 (0), .int .i64 (0), .int .i64 (0), .slice none 0 0], .int .u64 (0), .bool (false)]) (res_ok (vs := [.agg #[.int .i64 (0), .int .i64 (0), .int .i64 (0), .slice none 0 0], .int .u64 (0), .bool (false)]) rfl ⟨⟨_, rfl, run_loadA tyA32 rfl (hB12.at_ 0 4)⟩, rfl, rfl, trivial⟩) hK ?_
          have e0 : jstep crcOf 0 s0 (.zero, 0) = (.zero, 0) := jstep_f (by omega)
          have e1 : jstep crcOf 1 s1 (.zero, 0) = (.zero, 0) := jstep_f (by omega)
          have hj : (jload crcOf ⟨s0, s1, la, wa, wr⟩) = (.zero, 0) := by (unfold jload; rw [e0, e1])
          rw [hj]
          exact ⟨0, none, 0, rfl, rfl, Rd.nil _ _⟩
    · skip
      refine rlo ?_ (want_f rfl (decide_eq_false h42) (by decide))
      refine rlo ?_ (want_f rfl (decide_eq_false h42) (by decide))
      refine rlo ?_ (want_f rfl (decide_eq_false h42) (by decide))
      refine rl (o_pickF (v := .bool (false)) rfl (decide_eq_false h42) rfl ?_) rfl
      refine rl_nil ?_
      refine k_tn ?_
      refine cw_norm [(2, .pointer (some ⟨b7, 0, none⟩)), (5, .pointer (some ⟨b14, 0, none⟩)), (6, .int .u64 (0)), (9, .pointer (some ⟨b30, 0, none⟩)), (10, .int .u64 ((jget crcOf s0).2.1)), (13, .agg #[.slice a0 s0.length p0, .slice a1 s1.length p1]), (14, .int .i64 (0)), (37, .bool (false))] ⟨rfl, rfl, rfl, rfl, rfl, rfl, rfl, rfl, trivial⟩ (fun ρn166 => ?_)
      refine cw_condF rfl ?_
      refine cw_skip ?_
      refine k_bn ?_
      refine k_tn ?_
      refine cw_norm [(2, .pointer (some ⟨b7, 0, none⟩)), (5, .pointer (some ⟨b14, 0, none⟩)), (6, .int .u64 (0)), (13, .agg #[.slice a0 s0.length p0, .slice a1 s1.length p1]), (14, .int .i64 (0))] ⟨rfl, rfl, rfl, rfl, rfl, trivial⟩ (fun ρn167 => ?_)
      refine cw_region rfl ?_
      refine rl (o_add64 (a := 0) (b := 1) rfl rfl (by omega) (by omega) ?_) rfl
      refine rl (o_move (v := .int .i64 (1)) rfl ?_) rfl
      refine rl_nil ?_
      refine k_tn ?_
      refine cwl_unroll ?_
      refine cw_seq ?_
      refine cw_region rfl ?_
      refine rl (o_lss rfl rfl ?_) rfl
      refine rl_nil ?_
      refine k_tn ?_
      refine cw_norm [(2, .pointer (some ⟨b7, 0, none⟩)), (5, .pointer (some ⟨b14, 0, none⟩)), (6, .int .u64 (0)), (13, .agg #[.slice a0 s0.length p0, .slice a1 s1.length p1]), (14, .int .i64 (1)), (15, .bool (true))] ⟨rfl, rfl, rfl, rfl, rfl, rfl, trivial⟩ (fun ρn168 => ?_)
      refine cw_seq ?_
      refine cw_condT rfl ?_
      refine cw_skip ?_
      refine k_tn ?_
      refine cw_norm [(2, .pointer (some ⟨b7, 0, none⟩)), (5, .pointer (some ⟨b14, 0, none⟩)), (6, .int .u64 (0)), (13, .agg #[.slice a0 s0.length p0, .slice a1 s1.length p1]), (14, .int .i64 (1))] ⟨rfl, rfl, rfl, rfl, rfl, trivial⟩ (fun ρn169 => ?_)
      refine cw_seq ?_
      refine cw_block ?_
      refine cw_seq ?_
      refine cw_region rfl ?_
      refine rl (o_move (v := .int .i64 (1)) rfl ?_) rfl
      refine rl (o_indexV (cs := [.slice a0 s0.length p0, .slice a1 s1.length p1]) (v := .slice a1 s1.length p1) 1 rfl rfl Tryd.underlying25 tyS24 (by decide) rfl ?_) rfl
      refine rl (o_assign (v := .int .i64 (1)) rfl ?_) rfl
      refine rl (o_assign (v := .slice a1 s1.length p1) rfl ?_) rfl
      refine rl_nil ?_
      refine k_tn ?_
      refine cw_norm [(2, .pointer (some ⟨b7, 0, none⟩)), (5, .pointer (some ⟨b14, 0, none⟩)), (6, .int .u64 (0)), (7, .int .i64 (1)), (8, .slice a1 s1.length p1), (13, .agg #[.slice a0 s0.length p0, .slice a1 s1.length p1]), (14, .int .i64 (1))] ⟨rfl, rfl, rfl, rfl, rfl, rfl, rfl, trivial⟩ (fun ρn170 => ?_)
      refine cw_seq ?_
      refine cw_region rfl ?_
      refine rl (o_move (v := .slice a1 s1.length p1) rfl ?_) rfl
      refine rl (o_call (jget_ok a1 p1 s1 _ _ rfl hn1 hB1 hT hR1) Tryd.call27 (fun v171 w172 hk173 hv174 => ?_)) rfl
      have hl_b1_w172 := hB6.lt
      have hl_b7_w172 := hB12.lt
      have hl_b14_w172 := hB19.lt
      have hl_b30_w172 := hB35.lt
      have hs_w172 := hK.size
      obtain ⟨nG1, aoG1, cG1, rfl, hnG1, hG1⟩ := hv174
      replace hK := hK.trans (Kp.ext hk173)
      replace hB6 := hB6.ext hk173
      replace hB12 := hB12.ext hk173
      replace hB19 := hB19.ext hk173
      replace hB35 := hB35.ext hk173
      replace hT := hT.ext hk173
      replace hR0 := hR0.ext hk173
      replace hR1 := hR1.ext hk173
      replace hG0 := hG0.ext hk173
      replace hTr_w27 := hTr_w27.trans (Kp.ext hk173)
      subst hnG1
      replace hG1 := hG1.mono (G := fun b => w36.heap.size ≤ b ∧ b < w172.heap.size) (fun b hb h => ⟨h, hb⟩)
      have hTr_w172 := Kp.refl (fun _ => True) w172
      refine rl (o_move (v := .tuple #[.agg #[.int .i64 ((jget crcOf s1).1.budget), .int .i64 ((jget crcOf s1).1.margin), .int .i64 ((jget crcOf s1).1.credit), .slice aoG1 ((jget crcOf s1).1.l.length) cG1], .int .u64 ((jget crcOf s1).2.1), .int .i64 ((jget crcOf s1).2.2)]) rfl ?_) rfl
      refine rl (o_extract (vs := [.agg #[.int .i64 ((jget crcOf s1).1.budget), .int .i64 ((jget crcOf s1).1.margin), .int .i64 ((jget crcOf s1).1.credit), .slice aoG1 ((jget crcOf s1).1.l.length) cG1], .int .u64 ((jget crcOf s1).2.1), .int .i64 ((jget crcOf s1).2.2)]) (v := .agg #[.int .i64 ((jget crcOf s1).1.budget), .int .i64 ((jget crcOf s1).1.margin), .int .i64 ((jget crcOf s1).1.credit), .slice aoG1 ((jget crcOf s1).1.l.length) cG1]) rfl rfl ?_) rfl
      refine rl (o_extract (vs := [.agg #[.int .i64 ((jget crcOf s1).1.budget), .int .i64 ((jget crcOf s1).1.margin), .int .i64 ((jget crcOf s1).1.credit), .slice aoG1 ((jget crcOf s1).1.l.length) cG1], .int .u64 ((jget crcOf s1).2.1), .int .i64 ((jget crcOf s1).2.2)]) (v := .int .u64 ((jget crcOf s1).2.1)) rfl rfl ?_) rfl
      refine rl (o_extract (vs := [.agg #[.int .i64 ((jget crcOf s1).1.budget), .int .i64 ((jget crcOf s1).1.margin), .int .i64 ((jget crcOf s1).1.credit), .slice aoG1 ((jget crcOf s1).1.l.length) cG1], .int .u64 ((jget crcOf s1).2.1), .int .i64 ((jget crcOf s1).2.2)]) (v := .int .i64 ((jget crcOf s1).2.2)) rfl rfl ?_) rfl
      refine rl (o_alloc Tryd.zeroValue32 (fun b175 w176 hb177 hz178 hk179 hB180 => ?_)) rfl
      replace hB180 : Box w176 b175 [.int .i64 (0), .int .i64 (0), .int .i64 (0), .slice none 0 0] 32 := hB180
      have hs_b175 := hK.size
      have hl_b1_b175 := hB6.lt
      have hl_b7_b175 := hB12.lt
      have hl_b14_b175 := hB19.lt
      have hl_b30_b175 := hB35.lt
      have ht_hTr_w27_b175 := hTr_w27.size
      have ht_hTr_w172_b175 := hTr_w172.size
      replace hK := hK.trans (Kp.ext hk179)
      replace hB6 := hB6.ext hk179
      replace hB12 := hB12.ext hk179
      replace hB19 := hB19.ext hk179
      replace hB35 := hB35.ext hk179
      replace hT := hT.ext hk179
      replace hR0 := hR0.ext hk179
      replace hR1 := hR1.ext hk179
      replace hG0 := hG0.ext hk179
      replace hTr_w27 := hTr_w27.trans (Kp.ext hk179)
      replace hG1 := hG1.ext hk179
      replace hTr_w172 := hTr_w172.trans (Kp.ext hk179)
      refine rl0 (o_storeA (vs := [.int .i64 ((jget crcOf s1).1.budget), .int .i64 ((jget crcOf s1).1.margin), .int .i64 ((jget crcOf s1).1.credit), .slice aoG1 ((jget crcOf s1).1.l.length) cG1]) rfl rfl hB180 tyA32 rfl rfl (Nat.le_of_ble_eq_true rfl) (fun w181 hk182 hz183 hB184 => ?_)) rfl
      replace hB184 : Box w181 b175 [.int .i64 ((jget crcOf s1).1.budget), .int .i64 ((jget crcOf s1).1.margin), .int .i64 ((jget crcOf s1).1.credit), .slice aoG1 ((jget crcOf s1).1.l.length) cG1] 32 := hB184
      replace hK := hK.later hk182 (fun i hi hS => by have h1 : i = b175 := hS; omega)
      replace hB6 := hB6.kp hk182 (by show ¬ b1 = b175; omega)
      replace hB12 := hB12.kp hk182 (by show ¬ b7 = b175; omega)
      replace hB19 := hB19.kp hk182 (by show ¬ b14 = b175; omega)
      replace hB35 := hB35.kp hk182 (by show ¬ b30 = b175; omega)
      replace hT := hT.kp hk182 (fun h => by have h2 : (0 : Nat) = b175 := h; omega)
      replace hR0 := hR0.kp hk182 (fun i _ hF hS => by have h1 : i < w.heap.size := hF; have h2 : i = b175 := hS; omega)
      replace hR1 := hR1.kp hk182 (fun i _ hF hS => by have h1 : i < w.heap.size := hF; have h2 : i = b175 := hS; omega)
      replace hG0 := hG0.kp hk182 (fun i _ hF hS => by have h1 : w15.heap.size ≤ i ∧ i < w27.heap.size := hF; have h2 : i = b175 := hS; omega)
      replace hTr_w27 := hTr_w27.trans (hk182.mono (fun _ _ _ => trivial))
      replace hG1 := hG1.kp hk182 (fun i _ hF hS => by have h1 : w36.heap.size ≤ i ∧ i < w172.heap.size := hF; have h2 : i = b175 := hS; omega)
      replace hTr_w172 := hTr_w172.trans (hk182.mono (fun _ _ _ => trivial))
      replace hB180 := hB184
      refine rl (o_assign (v := .int .u64 ((jget crcOf s1).2.1)) rfl ?_) rfl
      refine rl (o_assign (v := .int .i64 ((jget crcOf s1).2.2)) rfl ?_) rfl
      refine rl_nil ?_
      refine k_tn ?_
      refine cw_norm [(2, .pointer (some ⟨b7, 0, none⟩)), (5, .pointer (some ⟨b14, 0, none⟩)), (6, .int .u64 (0)), (7, .int .i64 (1)), (9, .pointer (some ⟨b175, 0, none⟩)), (10, .int .u64 ((jget crcOf s1).2.1)), (11, .int .i64 ((jget crcOf s1).2.2)), (13, .agg #[.slice a0 s0.length p0, .slice a1 s1.length p1]), (14, .int .i64 (1))] ⟨rfl, rfl, rfl, rfl, rfl, rfl, rfl, rfl, rfl, trivial⟩ (fun ρn185 => ?_)
      refine cw_seq ?_
      refine cw_region rfl ?_
      refine rl (o_move (v := .int .i64 ((jget crcOf s1).2.2)) rfl ?_) rfl
      refine rl (o_eql rfl rfl ?_) rfl
      refine rl (o_move (v := .bool (decide ((jget crcOf s1).2.2 = 0))) rfl ?_) rfl
      by_cases h186 : (jget crcOf s1).2.2 = 0
      · skip
        refine rl (o_move (v := .int .u64 ((jget crcOf s1).2.1)) rfl ?_) (want_t rfl (decide_eq_true h186))
        refine rl (o_rem rfl rfl (by decide) hq1.1 ?_) (want_t rfl (decide_eq_true h186))
        refine rl (o_move (v := .int .i64 (1)) rfl ?_) (want_t rfl (decide_eq_true h186))
        refine rl (o_convI (a := 1) rfl ⟨_, Tryd.underlying3⟩ Tryd.underlying36 (by show (0 : Int) ≤ _; omega) (by show _ ≤ (18446744073709551615 : Int); omega) ?_) (want_t rfl (decide_eq_true h186))
        refine rl (o_eql rfl rfl ?_) (want_t rfl (decide_eq_true h186))
        refine rl (o_pickT (v := .bool (decide ((jget crcOf s1).2.1 % 2 = 1))) rfl (decide_eq_true h186) rfl ?_) rfl
        refine rl (o_move (v := .bool (decide ((jget crcOf s1).2.1 % 2 = 1))) rfl ?_) rfl
        by_cases h187 : (jget crcOf s1).2.1 % 2 = 1
        · skip
          refine rl (o_move (v := .int .u64 ((jget crcOf s1).2.1)) rfl ?_) (want_t rfl (decide_eq_true h187))
          refine rl (o_move (v := .int .u64 (0)) rfl ?_) (want_t rfl (decide_eq_true h187))
          refine rl (o_gtr rfl rfl ?_) (want_t rfl (decide_eq_true h187))
          refine rl (o_pickT (v := .bool (decide (0 < (jget crcOf s1).2.1))) rfl (decide_eq_true h187) rfl ?_) rfl
          refine rl_nil ?_
          refine k_tn ?_
          refine cw_norm [(2, .pointer (some ⟨b7, 0, none⟩)), (5, .pointer (some ⟨b14, 0, none⟩)), (6, .int .u64 (0)), (9, .pointer (some ⟨b175, 0, none⟩)), (10, .int .u64 ((jget crcOf s1).2.1)), (13, .agg #[.slice a0 s0.length p0, .slice a1 s1.length p1]), (14, .int .i64 (1)), (37, .bool (decide (0 < (jget crcOf s1).2.1)))] ⟨rfl, rfl, rfl, rfl, rfl, rfl, rfl, rfl, trivial⟩ (fun ρn188 => ?_)
          refine cw_if rfl (fun h189 => ?_) (fun h189 => ?_)
          · skip
            refine cw_seq ?_
            refine cw_region rfl ?_
            refine rl (o_loadBA (ds := [.int .i64 ((jget crcOf s1).1.budget), .int .i64 ((jget crcOf s1).1.margin), .int .i64 ((jget crcOf s1).1.credit), .slice aoG1 ((jget crcOf s1).1.l.length) cG1]) rfl hB180 tyA32 rfl rfl ?_) rfl
            refine rl0 (o_storeA (vs := [.int .i64 ((jget crcOf s1).1.budget), .int .i64 ((jget crcOf s1).1.margin), .int .i64 ((jget crcOf s1).1.credit), .slice aoG1 ((jget crcOf s1).1.l.length) cG1]) rfl rfl hB19 tyA32 rfl rfl (Nat.le_of_ble_eq_true rfl) (fun w190 hk191 hz192 hB193 => ?_)) rfl
            replace hB193 : Box w190 b14 [.int .i64 ((jget crcOf s1).1.budget), .int .i64 ((jget crcOf s1).1.margin), .int .i64 ((jget crcOf s1).1.credit), .slice aoG1 ((jget crcOf s1).1.l.length) cG1] 32 := hB193
            replace hK := hK.later hk191 (fun i hi hS => by have h1 : i = b14 := hS; omega)
            replace hB6 := hB6.kp hk191 (by show ¬ b1 = b14; omega)
            replace hB12 := hB12.kp hk191 (by show ¬ b7 = b14; omega)
            replace hB35 := hB35.kp hk191 (by show ¬ b30 = b14; omega)
            replace hB180 := hB180.kp hk191 (by show ¬ b175 = b14; omega)
            replace hT := hT.kp hk191 (fun h => by have h2 : (0 : Nat) = b14 := h; omega)
            replace hR0 := hR0.kp hk191 (fun i _ hF hS => by have h1 : i < w.heap.size := hF; have h2 : i = b14 := hS; omega)
            replace hR1 := hR1.kp hk191 (fun i _ hF hS => by have h1 : i < w.heap.size := hF; have h2 : i = b14 := hS; omega)
            replace hG0 := hG0.kp hk191 (fun i _ hF hS => by have h1 : w15.heap.size ≤ i ∧ i < w27.heap.size := hF; have h2 : i = b14 := hS; omega)
            replace hTr_w27 := hTr_w27.trans (hk191.mono (fun _ _ _ => trivial))
            replace hG1 := hG1.kp hk191 (fun i _ hF hS => by have h1 : w36.heap.size ≤ i ∧ i < w172.heap.size := hF; have h2 : i = b14 := hS; omega)
            replace hTr_w172 := hTr_w172.trans (hk191.mono (fun _ _ _ => trivial))
            replace hB19 := hB193
            refine rl_nil ?_
            refine k_tn ?_
            refine cw_norm [(2, .pointer (some ⟨b7, 0, none⟩)), (5, .pointer (some ⟨b14, 0, none⟩)), (10, .int .u64 ((jget crcOf s1).2.1)), (13, .agg #[.slice a0 s0.length p0, .slice a1 s1.length p1]), (14, .int .i64 (1))] ⟨rfl, rfl, rfl, rfl, rfl, trivial⟩ (fun ρn194 => ?_)
            refine cw_region rfl ?_
            refine rl (o_move (v := .int .u64 ((jget crcOf s1).2.1)) rfl ?_) rfl
            refine rl (o_assign (v := .int .u64 ((jget crcOf s1).2.1)) rfl ?_) rfl
            refine rl_nil ?_
            refine k_bn ?_
            refine k_tn ?_
            refine cw_norm [(2, .pointer (some ⟨b7, 0, none⟩)), (5, .pointer (some ⟨b14, 0, none⟩)), (6, .int .u64 ((jget crcOf s1).2.1)), (13, .agg #[.slice a0 s0.length p0, .slice a1 s1.length p1]), (14, .int .i64 (1))] ⟨rfl, rfl, rfl, rfl, rfl, trivial⟩ (fun ρn195 => ?_)
            refine cw_region rfl ?_
            refine rl (o_add64 (a := 1) (b := 1) rfl rfl (by omega) (by omega) ?_) rfl
            refine rl (o_move (v := .int .i64 (2)) rfl ?_) rfl
            refine rl_nil ?_
            refine k_tn ?_
            refine cwl_unroll ?_
            refine cw_seq ?_
            refine cw_region rfl ?_
            refine rl (o_lss rfl rfl ?_) rfl
            refine rl_nil ?_
            refine k_tn ?_
            refine cw_norm [(2, .pointer (some ⟨b7, 0, none⟩)), (5, .pointer (some ⟨b14, 0, none⟩)), (6, .int .u64 ((jget crcOf s1).2.1)), (13, .agg #[.slice a0 s0.length p0, .slice a1 s1.length p1]), (14, .int .i64 (2)), (15, .bool (false))] ⟨rfl, rfl, rfl, rfl, rfl, rfl, trivial⟩ (fun ρn196 => ?_)
            refine cw_seq ?_
            refine cw_condF rfl ?_
            refine cw_exit ?_
            refine k_te ?_
            refine k_te ?_
            refine k_bh ?_
            refine k_tn ?_
            refine cw_norm [(2, .pointer (some ⟨b7, 0, none⟩)), (5, .pointer (some ⟨b14, 0, none⟩)), (6, .int .u64 ((jget crcOf s1).2.1))] ⟨rfl, rfl, rfl, trivial⟩ (fun ρn197 => ?_)
            refine cw_reg rfl ?_
            refine rl (o_loadBA (ds := [.int .i64 ((jget crcOf s1).1.budget), .int .i64 ((jget crcOf s1).1.margin), .int .i64 ((jget crcOf s1).1.credit), .slice aoG1 ((jget crcOf s1).1.l.length) cG1]) rfl hB19 tyA32 rfl rfl ?_) rfl
            refine rl (o_move (v := .int .u64 ((jget crcOf s1).2.1)) rfl ?_) rfl
            refine rl (o_move (v := .int .u64 ((jget crcOf s1).2.1)) rfl ?_) rfl
            refine rl (o_gtr rfl rfl ?_) rfl
            refine rl0 (o_storeA (vs := [.int .i64 ((jget crcOf s1).1.budget), .int .i64 ((jget crcOf s1).1.margin), .int .i64 ((jget crcOf s1).1.credit), .slice aoG1 ((jget crcOf s1).1.l.length) cG1]) rfl rfl hB12 tyA32 rfl rfl (Nat.le_of_ble_eq_true rfl) (fun w198 hk199 hz200 hB201 => ?_)) rfl
            replace hB201 : Box w198 b7 [.int .i64 ((jget crcOf s1).1.budget), .int .i64 ((jget crcOf s1).1.margin), .int .i64 ((jget crcOf s1).1.credit), .slice aoG1 ((jget crcOf s1).1.l.length) cG1] 32 := hB201
            replace hK := hK.later hk199 (fun i hi hS => by have h1 : i = b7 := hS; omega)
            replace hB6 := hB6.kp hk199 (by show ¬ b1 = b7; omega)
            replace hB19 := hB19.kp hk199 (by show ¬ b14 = b7; omega)
            replace hB35 := hB35.kp hk199 (by show ¬ b30 = b7; omega)
            replace hB180 := hB180.kp hk199 (by show ¬ b175 = b7; omega)
            replace hT := hT.kp hk199 (fun h => by have h2 : (0 : Nat) = b7 := h; omega)
            replace hR0 := hR0.kp hk199 (fun i _ hF hS => by have h1 : i < w.heap.size := hF; have h2 : i = b7 := hS; omega)
            replace hR1 := hR1.kp hk199 (fun i _ hF hS => by have h1 : i < w.heap.size := hF; have h2 : i = b7 := hS; omega)
            replace hG0 := hG0.kp hk199 (fun i _ hF hS => by have h1 : w15.heap.size ≤ i ∧ i < w27.heap.size := hF; have h2 : i = b7 := hS; omega)
            replace hTr_w27 := hTr_w27.trans (hk199.mono (fun _ _ _ => trivial))
            replace hG1 := hG1.kp hk199 (fun i _ hF hS => by have h1 : w36.heap.size ≤ i ∧ i < w172.heap.size := hF; have h2 : i = b7 := hS; omega)
            replace hTr_w172 := hTr_w172.trans (hk199.mono (fun _ _ _ => trivial))
            replace hB12 := hB201
            refine rl (o_assign (v := .int .u64 ((jget crcOf s1).2.1)) rfl ?_) rfl
            refine rl (o_assign (v := .bool (decide (0 < (jget crcOf s1).2.1))) rfl ?_) rfl
            refine rl_nil ?_
            refine cw_ret ?_
            refine ret_intro (v := .tuple #[.agg #[.int .i64 ((jget crcOf s1).1.budget), .int .i64 ((jget crcOf s1).1.margin), .int .i64 ((jget crcOf s1).1.credit), .slice aoG1 ((jget crcOf s1).1.l.length) cG1], .int .u64 ((jget crcOf s1).2.1), .bool (decide (0 < (jget crcOf s1).2.1))]) (res_ok (vs := [.agg #[.int .i64 ((jget crcOf s1).1.budget), .int .i64 ((jget crcOf s1).1.margin), .int .i64 ((jget crcOf s1).1.credit), .slice aoG1 ((jget crcOf s1).1.l.length) cG1], .int .u64 ((jget crcOf s1).2.1), .bool (decide (0 < (jget crcOf s1).2.1))]) rfl ⟨⟨_, rfl, run_loadA tyA32 rfl (hB12.at_ 0 4)⟩, rfl, rfl, trivial⟩) hK ?_
            have e0 : jstep crcOf 0 s0 (.zero, 0) = (.zero, 0) := jstep_f (by omega)
            have e1 : jstep crcOf 1 s1 (.zero, 0) = ((jget crcOf s1).1, (jget crcOf s1).2.1) := jstep_t (by omega) (by omega) (by omega)
            have hj : (jload crcOf ⟨s0, s1, la, wa, wr⟩) = ((jget crcOf s1).1, (jget crcOf s1).2.1) := by (unfold jload; rw [e0, e1])
            rw [hj]
            exact ⟨_, aoG1, cG1, rfl, rfl, hG1.mono (fun b _ h => by have h1 : w36.heap.size ≤ b ∧ b < w172.heap.size := h; omega)⟩
          · skip
            refine cw_skip ?_
            refine k_bn ?_
            refine k_tn ?_
            refine cw_norm [(2, .pointer (some ⟨b7, 0, none⟩)), (5, .pointer (some ⟨b14, 0, none⟩)), (6, .int .u64 (0)), (13, .agg #[.slice a0 s0.length p0, .slice a1 s1.length p1]), (14, .int .i64 (1))] ⟨rfl, rfl, rfl, rfl, rfl, trivial⟩ (fun ρn202 => ?_)
            refine cw_region rfl ?_
            refine rl (o_add64 (a := 1) (b := 1) rfl rfl (by omega) (by omega) ?_) rfl
            refine rl (o_move (v := .int .i64 (2)) rfl ?_) rfl
            refine rl_nil ?_
            refine k_tn ?_
            refine cwl_unroll ?_
            refine cw_seq ?_
            refine cw_region rfl ?_
            refine rl (o_lss rfl rfl ?_) rfl
            refine rl_nil ?_
            refine k_tn ?_
            refine cw_norm [(2, .pointer (some ⟨b7, 0, none⟩)), (5, .pointer (some ⟨b14, 0, none⟩)), (6, .int .u64 (0)), (13, .agg #[.slice a0 s0.length p0, .slice a1 s1.length p1]), (14, .int .i64 (2)), (15, .bool (false))] ⟨rfl, rfl, rfl, rfl, rfl, rfl, trivial⟩ (fun ρn203 => ?_)
            refine cw_seq ?_
            refine cw_condF rfl ?_
            refine cw_exit ?_
            refine k_te ?_
            refine k_te ?_
            refine k_bh ?_
            refine k_tn ?_
            refine cw_norm [(2, .pointer (some ⟨b7, 0, none⟩)), (5, .pointer (some ⟨b14, 0, none⟩)), (6, .int .u64 (0))] ⟨rfl, rfl, rfl, trivial⟩ (fun ρn204 => ?_)
            refine cw_reg rfl ?_
            refine rl (o_loadBA (ds := [.int .i64 (0), .int .i64 (0), .int .i64 (0), .slice none 0 0]) rfl hB19 tyA32 rfl rfl ?_) rfl
            refine rl (o_move (v := .int .u64 (0)) rfl ?_) rfl
            refine rl (o_move (v := .int .u64 (0)) rfl ?_) rfl
            refine rl (o_gtr rfl rfl ?_) rfl
            refine rl0 (o_storeA (vs := [.int .i64 (0), .int .i64 (0), .int .i64 (0), .slice none 0 0]) rfl rfl hB12 tyA32 rfl rfl (Nat.le_of_ble_eq_true rfl) (fun w205 hk206 hz207 hB208 => ?_)) rfl
            replace hB208 : Box w205 b7 [.int .i64 (0), .int .i64 (0), .int .i64 (0), .slice none 0 0] 32 := hB208
            replace hK := hK.later hk206 (fun i hi hS => by have h1 : i = b7 := hS; omega)
            replace hB6 := hB6.kp hk206 (by show ¬ b1 = b7; omega)
            replace hB19 := hB19.kp hk206 (by show ¬ b14 = b7; omega)
            replace hB35 := hB35.kp hk206 (by show ¬ b30 = b7; omega)
            replace hB180 := hB180.kp hk206 (by show ¬ b175 = b7; omega)
            replace hT := hT.kp hk206 (fun h => by have h2 : (0 : Nat) = b7 := h; omega)
            replace hR0 := hR0.kp hk206 (fun i _ hF hS => by have h1 : i < w.heap.size := hF; have h2 : i = b7 := hS; omega)
            replace hR1 := hR1.kp hk206 (fun i _ hF hS => by have h1 : i < w.heap.size := hF; have h2 : i = b7 := hS; omega)
            replace hG0 := hG0.kp hk206 (fun i _ hF hS => by have h1 : w15.heap.size ≤ i ∧ i < w27.heap.size := hF; have h2 : i = b7 := hS; omega)
            replace hTr_w27 := hTr_w27.trans (hk206.mono (fun _ _ _ => trivial))
            replace hG1 := hG1.kp hk206 (fun i _ hF hS => by have h1 : w36.heap.size ≤ i ∧ i < w172.heap.size := hF; have h2 : i = b7 := hS; omega)
            replace hTr_w172 := hTr_w172.trans (hk206.mono (fun _ _ _ => trivial))
            replace hB12 := hB208
            refine rl (o_assign (v := .int .u64 (0)) rfl ?_) rfl
            refine rl (o_assign (v := .bool (false)) rfl ?_) rfl
            refine rl_nil ?_
            refine cw_ret ?_
            refine ret_intro (v := .tuple #[.agg #[.int .i64 (0), .int .i64 (0), .int .i64 (0), .slice none 0 0], .int .u64 (0), .bool (false)]) (res_ok (vs := [.agg #[.int .i64 (0), .int .i64 (0), .int .i64 (0), .slice none 0 0], .int .u64 (0), .bool (false)]) rfl ⟨⟨_, rfl, run_loadA tyA32 rfl (hB12.at_ 0 4)⟩, rfl, rfl, trivial⟩) hK ?_
            have e0 : jstep crcOf 0 s0 (.zero, 0) = (.zero, 0) := jstep_f (by omega)
            have e1 : jstep crcOf 1 s1 (.zero, 0) = (.zero, 0) := jstep_f (by omega)
            have hj : (jload crcOf ⟨s0, s1, la, wa, wr⟩) = (.zero, 0) := by (unfold jload; rw [e0, e1])
            rw [hj]
            exact ⟨0, none, 0, rfl, rfl, Rd.nil _ _⟩
        · skip
          refine rlo ?_ (want_f rfl (decide_eq_false h187) (by decide))
          refine rlo ?_ (want_f rfl (decide_eq_false h187) (by decide))
          refine rlo ?_ (want_f rfl (decide_eq_false h187) (by decide))
          refine rl (o_pickF (v := .bool (false)) rfl (decide_eq_false h187) rfl ?_) rfl
          refine rl_nil ?_
          refine k_tn ?_
          refine cw_norm [(2, .pointer (some ⟨b7, 0, none⟩)), (5, .pointer (some ⟨b14, 0, none⟩)), (6, .int .u64 (0)), (9, .pointer (some ⟨b175, 0, none⟩)), (10, .int .u64 ((jget crcOf s1).2.1)), (13, .agg #[.slice a0 s0.length p0, .slice a1 s1.length p1]), (14, .int .i64 (1)), (37, .bool (false))] ⟨rfl, rfl, rfl, rfl, rfl, rfl, rfl, rfl, trivial⟩ (fun ρn209 => ?_)
          refine cw_condF rfl ?_
          refine cw_skip ?_
          refine k_bn ?_
          refine k_tn ?_
          refine cw_norm [(2, .pointer (some ⟨b7, 0, none⟩)), (5, .pointer (some ⟨b14, 0, none⟩)), (6, .int .u64 (0)), (13, .agg #[.slice a0 s0.length p0, .slice a1 s1.length p1]), (14, .int .i64 (1))] ⟨rfl, rfl, rfl, rfl, rfl, trivial⟩ (fun ρn210 => ?_)
          refine cw_region rfl ?_
          refine rl (o_add64 (a := 1) (b := 1) rfl rfl (by omega) (by omega) ?_) rfl
          refine rl (o_move (v := .int .i64 (2)) rfl ?_) rfl
          refine rl_nil ?_
          refine k_tn ?_
          refine cwl_unroll ?_
          refine cw_seq ?_
          refine cw_region rfl ?_
          refine rl (o_lss rfl rfl ?_) rfl
          refine rl_nil ?_
          refine k_tn ?_
          refine cw_norm [(2, .pointer (some ⟨b7, 0, none⟩)), (5, .pointer (some ⟨b14, 0, none⟩)), (6, .int .u64 (0)), (13, .agg #[.slice a0 s0.length p0, .slice a1 s1.length p1]), (14, .int .i64 (2)), (15, .bool (false))] ⟨rfl, rfl, rfl, rfl, rfl, rfl, trivial⟩ (fun ρn211 => ?_)
          refine cw_seq ?_
          refine cw_condF rfl ?_
          refine cw_exit ?_
          refine k_te ?_
          refine k_te ?_
          refine k_bh ?_
          refine k_tn ?_
          refine cw_norm [(2, .pointer (some ⟨b7, 0, none⟩)), (5, .pointer (some ⟨b14, 0, none⟩)), (6, .int .u64 (0))] ⟨rfl, rfl, rfl, trivial⟩ (fun ρn212 => ?_)
          refine cw_reg rfl ?_
          refine rl (o_loadBA (ds := [.int .i64 (0), .int .i64 (0), .int .i64 (0), .slice none 0 0]) rfl hB19 tyA32 rfl rfl ?_) rfl
          refine rl (o_move (v := .int .u64 (0)) rfl ?_) rfl
          refine rl (o_move (v := .int .u64 (0)) rfl ?_) rfl
          refine rl (o_gtr rfl rfl ?_) rfl
          refine rl0 (o_storeA (vs := [.int .i64 (0), .int .i64 (0), .int .i64 (0), .slice none 0 0]) rfl rfl hB12 tyA32 rfl rfl (Nat.le_of_ble_eq_true rfl) (fun w213 hk214 hz215 hB216 => ?_)) rfl
          replace hB216 : Box w213 b7 [.int .i64 (0), .int .i64 (0), .int .i64 (0), .slice none 0 0] 32 := hB216
          replace hK := hK.later hk214 (fun i hi hS => by have h1 : i = b7 := hS; omega)
          replace hB6 := hB6.kp hk214 (by show ¬ b1 = b7; omega)
          replace hB19 := hB19.kp hk214 (by show ¬ b14 = b7; omega)
          replace hB35 := hB35.kp hk214 (by show ¬ b30 = b7; omega)
          replace hB180 := hB180.kp hk214 (by show ¬ b175 = b7; omega)
          replace hT := hT.kp hk214 (fun h => by have h2 : (0 : Nat) = b7 := h; omega)
          replace hR0 := hR0.kp hk214 (fun i _ hF hS => by have h1 : i < w.heap.size := hF; have h2 : i = b7 := hS; omega)
          replace hR1 := hR1.kp hk214 (fun i _ hF hS => by have h1 : i < w.heap.size := hF; have h2 : i = b7 := hS; omega)
          replace hG0 := hG0.kp hk214 (fun i _ hF hS => by have h1 : w15.heap.size ≤ i ∧ i < w27.heap.size := hF; have h2 : i = b7 := hS; omega)
          replace hTr_w27 := hTr_w27.trans (hk214.mono (fun _ _ _ => trivial))
          replace hG1 := hG1.kp hk214 (fun i _ hF hS => by have h1 : w36.heap.size ≤ i ∧ i < w172.heap.size := hF; have h2 : i = b7 := hS; omega)
          replace hTr_w172 := hTr_w172.trans (hk214.mono (fun _ _ _ => trivial))
          replace hB12 := hB216
          refine rl (o_assign (v := .int .u64 (0)) rfl ?_) rfl
          refine rl (o_assign (v := .bool (false)) rfl ?_) rfl
          refine rl_nil ?_
          refine cw_ret ?_
          refine ret_intro (v := .tuple #[.agg #[.int .i64 (0), .int .i64 (0), .int .i64 (0), .slice none 0 0], .int .u64 (0), .bool (false)]) (res_ok (vs := [.agg #[.int .i64 (0), .int .i64 (0), .int .i64 (0), .slice none 0 0], .int .u64 (0), .bool (false)]) rfl ⟨⟨_, rfl, run_loadA tyA32 rfl (hB12.at_ 0 4)⟩, rfl, rfl, trivial⟩) hK ?_
          have e0 : jstep crcOf 0 s0 (.zero, 0) = (.zero, 0) := jstep_f (by omega)
          have e1 : jstep crcOf 1 s1 (.zero, 0) = (.zero, 0) := jstep_f (by omega)
          have hj : (jload crcOf ⟨s0, s1, la, wa, wr⟩) = (.zero, 0) := by (unfold jload; rw [e0, e1])
          rw [hj]
          exact ⟨0, none, 0, rfl, rfl, Rd.nil _ _⟩
      · skip
        refine rlo ?_ (want_f rfl (decide_eq_false h186) (by decide))
        refine rlo ?_ (want_f rfl (decide_eq_false h186) (by decide))
        refine rlo ?_ (want_f rfl (decide_eq_false h186) (by decide))
        refine rlo ?_ (want_f rfl (decide_eq_false h186) (by decide))
        refine rlo ?_ (want_f rfl (decide_eq_false h186) (by decide))
        refine rl (o_pickF (v := .bool (false)) rfl (decide_eq_false h186) rfl ?_) rfl
        refine rl (o_move (v := .bool (false)) rfl ?_) rfl
        refine rlo ?_ (want_f rfl (rfl) (by decide))
        refine rlo ?_ (want_f rfl (rfl) (by decide))
        refine rlo ?_ (want_f rfl (rfl) (by decide))
        refine rl (o_pickF (v := .bool (false)) rfl (rfl) rfl ?_) rfl
        refine rl_nil ?_
        refine k_tn ?_
        refine cw_norm [(2, .pointer (some ⟨b7, 0, none⟩)), (5, .pointer (some ⟨b14, 0, none⟩)), (6, .int .u64 (0)), (9, .pointer (some ⟨b175, 0, none⟩)), (10, .int .u64 ((jget crcOf s1).2.1)), (13, .agg #[.slice a0 s0.length p0, .slice a1 s1.length p1]), (14, .int .i64 (1)), (37, .bool (false))] ⟨rfl, rfl, rfl, rfl, rfl, rfl, rfl, rfl, trivial⟩ (fun ρn217 => ?_)
        refine cw_condF rfl ?_
        refine cw_skip ?_
        refine k_bn ?_
        refine k_tn ?_
        refine cw_norm [(2, .pointer (some ⟨b7, 0, none⟩)), (5, .pointer (some ⟨b14, 0, none⟩)), (6, .int .u64 (0)), (13, .agg #[.slice a0 s0.length p0, .slice a1 s1.length p1]), (14, .int .i64 (1))] ⟨rfl, rfl, rfl, rfl, rfl, trivial⟩ (fun ρn218 => ?_)
        refine cw_region rfl ?_
        refine rl (o_add64 (a := 1) (b := 1) rfl rfl (by omega) (by omega) ?_) rfl
        refine rl (o_move (v := .int .i64 (2)) rfl ?_) rfl
        refine rl_nil ?_
        refine k_tn ?_
        refine cwl_unroll ?_
        refine cw_seq ?_
        refine cw_region rfl ?_
        refine rl (o_lss rfl rfl ?_) rfl
        refine rl_nil ?_
        refine k_tn ?_
        refine cw_norm [(2, .pointer (some ⟨b7, 0, none⟩)), (5, .pointer (some ⟨b14, 0, none⟩)), (6, .int .u64 (0)), (13, .agg #[.slice a0 s0.length p0, .slice a1 s1.length p1]), (14, .int .i64 (2)), (15, .bool (false))] ⟨rfl, rfl, rfl, rfl, rfl, rfl, trivial⟩ (fun ρn219 => ?_)
        refine cw_seq ?_
        refine cw_condF rfl ?_
        refine cw_exit ?_
        refine k_te ?_
        refine k_te ?_
        refine k_bh ?_
        refine k_tn ?_
        refine cw_norm [(2, .pointer (some ⟨b7, 0, none⟩)), (5, .pointer (some ⟨b14, 0, none⟩)), (6, .int .u64 (0))] ⟨rfl, rfl, rfl, trivial⟩ (fun ρn220 => ?_)
        refine cw_reg rfl ?_
        refine rl (o_loadBA (ds := [.int .i64 (0), .int .i64 (0), .int .i64 (0), .slice none 0 0]) rfl hB19 tyA32 rfl rfl ?_) rfl
        refine rl (o_move (v := .int .u64 (0)) rfl ?_) rfl
        refine rl (o_move (v := .int .u64 (0)) rfl ?_) rfl
        refine rl (o_gtr rfl rfl ?_) rfl
        refine rl0 (o_storeA (vs := [.int .i64 (0), .int .i64 (0), .int .i64 (0), .slice none 0 0]) rfl rfl hB12 tyA32 rfl rfl (Nat.le_of_ble_eq_true rfl) (fun w221 hk222 hz223 hB224 => ?_)) rfl
        replace hB224 : Box w221 b7 [.int .i64 (0), .int .i64 (0), .int .i64 (0), .slice none 0 0] 32 := hB224
        replace hK := hK.later hk222 (fun i hi hS => by have h1 : i = b7 := hS; omega)
        replace hB6 := hB6.kp hk222 (by show ¬ b1 = b7; omega)
        replace hB19 := hB19.kp hk222 (by show ¬ b14 = b7; omega)
        replace hB35 := hB35.kp hk222 (by show ¬ b30 = b7; omega)
        replace hB180 := hB180.kp hk222 (by show ¬ b175 = b7; omega)
        replace hT := hT.kp hk222 (fun h => by have h2 : (0 : Nat) = b7 := h; omega)
        replace hR0 := hR0.kp hk222 (fun i _ hF hS => by have h1 : i < w.heap.size := hF; have h2 : i = b7 := hS; omega)
        replace hR1 := hR1.kp hk222 (fun i _ hF hS => by have h1 : i < w.heap.size := hF; have h2 : i = b7 := hS; omega)
        replace hG0 := hG0.kp hk222 (fun i _ hF hS => by have h1 : w15.heap.size ≤ i ∧ i < w27.heap.size := hF; have h2 : i = b7 := hS; omega)
        replace hTr_w27 := hTr_w27.trans (hk222.mono (fun _ _ _ => trivial))
        replace hG1 := hG1.kp hk222 (fun i _ hF hS => by have h1 : w36.heap.size ≤ i ∧ i < w172.heap.size := hF; have h2 : i = b7 := hS; omega)
        replace hTr_w172 := hTr_w172.trans (hk222.mono (fun _ _ _ => trivial))
        replace hB12 := hB224
        refine rl (o_assign (v := .int .u64 (0)) rfl ?_) rfl
        refine rl (o_assign (v := .bool (false)) rfl ?_) rfl
        refine rl_nil ?_
        refine cw_ret ?_
        refine ret_intro (v := .tuple #[.agg #[.int .i64 (0), .int .i64 (0), .int .i64 (0), .slice none 0 0], .int .u64 (0), .bool (false)]) (res_ok (vs := [.agg #[.int .i64 (0), .int .i64 (0), .int .i64 (0), .slice none 0 0], .int .u64 (0), .bool (false)]) rfl ⟨⟨_, rfl, run_loadA tyA32 rfl (hB12.at_ 0 4)⟩, rfl, rfl, trivial⟩) hK ?_
        have e0 : jstep crcOf 0 s0 (.zero, 0) = (.zero, 0) := jstep_f (by omega)
        have e1 : jstep crcOf 1 s1 (.zero, 0) = (.zero, 0) := jstep_f (by omega)
        have hj : (jload crcOf ⟨s0, s1, la, wa, wr⟩) = (.zero, 0) := by (unfold jload; rw [e0, e1])
        rw [hj]
        exact ⟨0, none, 0, rfl, rfl, Rd.nil _ _⟩
  · skip
    refine rlo ?_ (want_f rfl (decide_eq_false h41) (by decide))
    refine rlo ?_ (want_f rfl (decide_eq_false h41) (by decide))
    refine rlo ?_ (want_f rfl (decide_eq_false h41) (by decide))
    refine rlo ?_ (want_f rfl (decide_eq_false h41) (by decide))
    refine rlo ?_ (want_f rfl (decide_eq_false h41) (by decide))
    refine rl (o_pickF (v := .bool (false)) rfl (decide_eq_false h41) rfl ?_) rfl
    refine rl (o_move (v := .bool (false)) rfl ?_) rfl
    refine rlo ?_ (want_f rfl (rfl) (by decide))
    refine rlo ?_ (want_f rfl (rfl) (by decide))
    refine rlo ?_ (want_f rfl (rfl) (by decide))
    refine rl (o_pickF (v := .bool (false)) rfl (rfl) rfl ?_) rfl
    refine rl_nil ?_
    refine k_tn ?_
    refine cw_norm [(2, .pointer (some ⟨b7, 0, none⟩)), (5, .pointer (some ⟨b14, 0, none⟩)), (6, .int .u64 (0)), (9, .pointer (some ⟨b30, 0, none⟩)), (10, .int .u64 ((jget crcOf s0).2.1)), (13, .agg #[.slice a0 s0.length p0, .slice a1 s1.length p1]), (14, .int .i64 (0)), (37, .bool (false))] ⟨rfl, rfl, rfl, rfl, rfl, rfl, rfl, rfl, trivial⟩ (fun ρn225 => ?_)
    refine cw_condF rfl ?_
    refine cw_skip ?_
    refine k_bn ?_
    refine k_tn ?_
    refine cw_norm [(2, .pointer (some ⟨b7, 0, none⟩)), (5, .pointer (some ⟨b14, 0, none⟩)), (6, .int .u64 (0)), (13, .agg #[.slice a0 s0.length p0, .slice a1 s1.length p1]), (14, .int .i64 (0))] ⟨rfl, rfl, rfl, rfl, rfl, trivial⟩ (fun ρn226 => ?_)
    refine cw_region rfl ?_
    refine rl (o_add64 (a := 0) (b := 1) rfl rfl (by omega) (by omega) ?_) rfl
    refine rl (o_move (v := .int .i64 (1)) rfl ?_) rfl
    refine rl_nil ?_
    refine k_tn ?_
    refine cwl_unroll ?_
    refine cw_seq ?_
    refine cw_region rfl ?_
    refine rl (o_lss rfl rfl ?_) rfl
    refine rl_nil ?_
    refine k_tn ?_
    refine cw_norm [(2, .pointer (some ⟨b7, 0, none⟩)), (5, .pointer (some ⟨b14, 0, none⟩)), (6, .int .u64 (0)), (13, .agg #[.slice a0 s0.length p0, .slice a1 s1.length p1]), (14, .int .i64 (1)), (15, .bool (true))] ⟨rfl, rfl, rfl, rfl, rfl, rfl, trivial⟩ (fun ρn227 => ?_)
    refine cw_seq ?_
    refine cw_condT rfl ?_
    refine cw_skip ?_
    refine k_tn ?_
    refine cw_norm [(2, .pointer (some ⟨b7, 0, none⟩)), (5, .pointer (some ⟨b14, 0, none⟩)), (6, .int .u64 (0)), (13, .agg #[.slice a0 s0.length p0, .slice a1 s1.length p1]), (14, .int .i64 (1))] ⟨rfl, rfl, rfl, rfl, rfl, trivial⟩ (fun ρn228 => ?_)
    refine cw_seq ?_
    refine cw_block ?_
    refine cw_seq ?_
    refine cw_region rfl ?_
    refine rl (o_move (v := .int .i64 (1)) rfl ?_) rfl
    refine rl (o_indexV (cs := [.slice a0 s0.length p0, .slice a1 s1.length p1]) (v := .slice a1 s1.length p1) 1 rfl rfl Tryd.underlying25 tyS24 (by decide) rfl ?_) rfl
    refine rl (o_assign (v := .int .i64 (1)) rfl ?_) rfl
    refine rl (o_assign (v := .slice a1 s1.length p1) rfl ?_) rfl
    refine rl_nil ?_
    refine k_tn ?_
    refine cw_norm [(2, .pointer (some ⟨b7, 0, none⟩)), (5, .pointer (some ⟨b14, 0, none⟩)), (6, .int .u64 (0)), (7, .int .i64 (1)), (8, .slice a1 s1.length p1), (13, .agg #[.slice a0 s0.length p0, .slice a1 s1.length p1]), (14, .int .i64 (1))] ⟨rfl, rfl, rfl, rfl, rfl, rfl, rfl, trivial⟩ (fun ρn229 => ?_)
    refine cw_seq ?_
    refine cw_region rfl ?_
    refine rl (o_move (v := .slice a1 s1.length p1) rfl ?_) rfl
    refine rl (o_call (jget_ok a1 p1 s1 _ _ rfl hn1 hB1 hT hR1) Tryd.call27 (fun v230 w231 hk232 hv233 => ?_)) rfl
    have hl_b1_w231 := hB6.lt
    have hl_b7_w231 := hB12.lt
    have hl_b14_w231 := hB19.lt
    have hl_b30_w231 := hB35.lt
    have hs_w231 := hK.size
    obtain ⟨nG1, aoG1, cG1, rfl, hnG1, hG1⟩ := hv233
    replace hK := hK.trans (Kp.ext hk232)
    replace hB6 := hB6.ext hk232
    replace hB12 := hB12.ext hk232
    replace hB19 := hB19.ext hk232
    replace hB35 := hB35.ext hk232
    replace hT := hT.ext hk232
    replace hR0 := hR0.ext hk232
    replace hR1 := hR1.ext hk232
    replace hG0 := hG0.ext hk232
    replace hTr_w27 := hTr_w27.trans (Kp.ext hk232)
    subst hnG1
    replace hG1 := hG1.mono (G := fun b => w36.heap.size ≤ b ∧ b < w231.heap.size) (fun b hb h => ⟨h, hb⟩)
    have hTr_w231 := Kp.refl (fun _ => True) w231
    refine rl (o_move (v := .tuple #[.agg #[.int .i64 ((jget crcOf s1).1.budget), .int .i64 ((jget crcOf s1).1.margin), .int .i64 ((jget crcOf s1).1.credit), .slice aoG1 ((jget crcOf s1).1.l.length) cG1], .int .u64 ((jget crcOf s1).2.1), .int .i64 ((jget crcOf s1).2.2)]) rfl ?_) rfl
    refine rl (o_extract (vs := [.agg #[.int .i64 ((jget crcOf s1).1.budget), .int .i64 ((jget crcOf s1).1.margin), .int .i64 ((jget crcOf s1).1.credit), .slice aoG1 ((jget crcOf s1).1.l.length) cG1], .int .u64 ((jget crcOf s1).2.1), .int .i64 ((jget crcOf s1).2.2)]) (v := .agg #[.int .i64 ((jget crcOf s1).1.budget), .int .i64 ((jget crcOf s1).1.margin), .int .i64 ((jget crcOf s1).1.credit), .slice aoG1 ((jget crcOf s1).1.l.length) cG1]) rfl rfl ?_) rfl
    refine rl (o_extract (vs := [.agg #[.int .i64 ((jget crcOf s1).1.budget), .int .i64 ((jget crcOf s1).1.margin), .int .i64 ((jget crcOf s1).1.credit), .slice aoG1 ((jget crcOf s1).1.l.length) cG1], .int .u64 ((jget crcOf s1).2.1), .int .i64 ((jget crcOf s1).2.2)]) (v := .int .u64 ((jget crcOf s1).2.1)) rfl rfl ?_) rfl
    refine rl (o_extract (vs := [.agg #[.int .i64 ((jget crcOf s1).1.budget), .int .i64 ((jget crcOf s1).1.margin), .int .i64 ((jget crcOf s1).1.credit), .slice aoG1 ((jget crcOf s1).1.l.length) cG1], .int .u64 ((jget crcOf s1).2.1), .int .i64 ((jget crcOf s1).2.2)]) (v := .int .i64 ((jget crcOf s1).2.2)) rfl rfl ?_) rfl
    refine rl (o_alloc Tryd.zeroValue32 (fun b234 w235 hb236 hz237 hk238 hB239 => ?_)) rfl
    replace hB239 : Box w235 b234 [.int .i64 (0), .int .i64 (0), .int .i64 (0), .slice none 0 0] 32 := hB239
    have hs_b234 := hK.size
    have hl_b1_b234 := hB6.lt
    have hl_b7_b234 := hB12.lt
    have hl_b14_b234 := hB19.lt
    have hl_b30_b234 := hB35.lt
    have ht_hTr_w27_b234 := hTr_w27.size
    have ht_hTr_w231_b234 := hTr_w231.size
    replace hK := hK.trans (Kp.ext hk238)
    replace hB6 := hB6.ext hk238
    replace hB12 := hB12.ext hk238
    replace hB19 := hB19.ext hk238
    replace hB35 := hB35.ext hk238
    replace hT := hT.ext hk238
    replace hR0 := hR0.ext hk238
    replace hR1 := hR1.ext hk238
    replace hG0 := hG0.ext hk238
    replace hTr_w27 := hTr_w27.trans (Kp.ext hk238)
    replace hG1 := hG1.ext hk238
    replace hTr_w231 := hTr_w231.trans (Kp.ext hk238)
    refine rl0 (o_storeA (vs := [.int .i64 ((jget crcOf s1).1.budget), .int .i64 ((jget crcOf s1).1.margin), .int .i64 ((jget crcOf s1).1.credit), .slice aoG1 ((jget crcOf s1).1.l.length) cG1]) rfl rfl hB239 tyA32 rfl rfl (Nat.le_of_ble_eq_true rfl) (fun w240 hk241 hz242 hB243 => ?_)) rfl
    replace hB243 : Box w240 b234 [.int .i64 ((jget crcOf s1).1.budget), .int .i64 ((jget crcOf s1).1.margin), .int .i64 ((jget crcOf s1).1.credit), .slice aoG1 ((jget crcOf s1).1.l.length) cG1] 32 := hB243
    replace hK := hK.later hk241 (fun i hi hS => by have h1 : i = b234 := hS; omega)
    replace hB6 := hB6.kp hk241 (by show ¬ b1 = b234; omega)
    replace hB12 := hB12.kp hk241 (by show ¬ b7 = b234; omega)
    replace hB19 := hB19.kp hk241 (by show ¬ b14 = b234; omega)
    replace hB35 := hB35.kp hk241 (by show ¬ b30 = b234; omega)
    replace hT := hT.kp hk241 (fun h => by have h2 : (0 : Nat) = b234 := h; omega)
    replace hR0 := hR0.kp hk241 (fun i _ hF hS => by have h1 : i < w.heap.size := hF; have h2 : i = b234 := hS; omega)
    replace hR1 := hR1.kp hk241 (fun i _ hF hS => by have h1 : i < w.heap.size := hF; have h2 : i = b234 := hS; omega)
    replace hG0 := hG0.kp hk241 (fun i _ hF hS => by have h1 : w15.heap.size ≤ i ∧ i < w27.heap.size := hF; have h2 : i = b234 := hS; omega)
    replace hTr_w27 := hTr_w27.trans (hk241.mono (fun _ _ _ => trivial))
    replace hG1 := hG1.kp hk241 (fun i _ hF hS => by have h1 : w36.heap.size ≤ i ∧ i < w231.heap.size := hF; have h2 : i = b234 := hS; omega)
    replace hTr_w231 := hTr_w231.trans (hk241.mono (fun _ _ _ => trivial))
    replace hB239 := hB243
    refine rl (o_assign (v := .int .u64 ((jget crcOf s1).2.1)) rfl ?_) rfl
    refine rl (o_assign (v := .int .i64 ((jget crcOf s1).2.2)) rfl ?_) rfl
    refine rl_nil ?_
    refine k_tn ?_
    refine cw_norm [(2, .pointer (some ⟨b7, 0, none⟩)), (5, .pointer (some ⟨b14, 0, none⟩)), (6, .int .u64 (0)), (7, .int .i64 (1)), (9, .pointer (some ⟨b234, 0, none⟩)), (10, .int .u64 ((jget crcOf s1).2.1)), (11, .int .i64 ((jget crcOf s1).2.2)), (13, .agg #[.slice a0 s0.length p0, .slice a1 s1.length p1]), (14, .int .i64 (1))] ⟨rfl, rfl, rfl, rfl, rfl, rfl, rfl, rfl, rfl, trivial⟩ (fun ρn244 => ?_)
    refine cw_seq ?_
    refine cw_region rfl ?_
    refine rl (o_move (v := .int .i64 ((jget crcOf s1).2.2)) rfl ?_) rfl
    refine rl (o_eql rfl rfl ?_) rfl
    refine rl (o_move (v := .bool (decide ((jget crcOf s1).2.2 = 0))) rfl ?_) rfl
    by_cases h245 : (jget crcOf s1).2.2 = 0
    · skip
      refine rl (o_move (v := .int .u64 ((jget crcOf s1).2.1)) rfl ?_) (want_t rfl (decide_eq_true h245))
      refine rl (o_rem rfl rfl (by decide) hq1.1 ?_) (want_t rfl (decide_eq_true h245))
      refine rl (o_move (v := .int .i64 (1)) rfl ?_) (want_t rfl (decide_eq_true h245))
      refine rl (o_convI (a := 1) rfl ⟨_, Tryd.underlying3⟩ Tryd.underlying36 (by show (0 : Int) ≤ _; omega) (by show _ ≤ (18446744073709551615 : Int); omega) ?_) (want_t rfl (decide_eq_true h245))
      refine rl (o_eql rfl rfl ?_) (want_t rfl (decide_eq_true h245))
      refine rl (o_pickT (v := .bool (decide ((jget crcOf s1).2.1 % 2 = 1))) rfl (decide_eq_true h245) rfl ?_) rfl
      refine rl (o_move (v := .bool (decide ((jget crcOf s1).2.1 % 2 = 1))) rfl ?_) rfl
      by_cases h246 : (jget crcOf s1).2.1 % 2 = 1
      · skip
        refine rl (o_move (v := .int .u64 ((jget crcOf s1).2.1)) rfl ?_) (want_t rfl (decide_eq_true h246))
        refine rl (o_move (v := .int .u64 (0)) rfl ?_) (want_t rfl (decide_eq_true h246))
        refine rl (o_gtr rfl rfl ?_) (want_t rfl (decide_eq_true h246))
        refine rl (o_pickT (v := .bool (decide (0 < (jget crcOf s1).2.1))) rfl (decide_eq_true h246) rfl ?_) rfl
        refine rl_nil ?_
        refine k_tn ?_
        refine cw_norm [(2, .pointer (some ⟨b7, 0, none⟩)), (5, .pointer (some ⟨b14, 0, none⟩)), (6, .int .u64 (0)), (9, .pointer (some ⟨b234, 0, none⟩)), (10, .int .u64 ((jget crcOf s1).2.1)), (13, .agg #[.slice a0 s0.length p0, .slice a1 s1.length p1]), (14, .int .i64 (1)), (37, .bool (decide (0 < (jget crcOf s1).2.1)))] ⟨rfl, rfl, rfl, rfl, rfl, rfl, rfl, rfl, trivial⟩ (fun ρn247 => ?_)
        refine cw_if rfl (fun h248 => ?_) (fun h248 => ?_)
        · skip
          refine cw_seq ?_
          refine cw_region rfl ?_
          refine rl (o_loadBA (ds := [.int .i64 ((jget crcOf s1).1.budget), .int .i64 ((jget crcOf s1).1.margin), .int .i64 ((jget crcOf s1).1.credit), .slice aoG1 ((jget crcOf s1).1.l.length) cG1]) rfl hB239 tyA32 rfl rfl ?_) rfl
          refine rl0 (o_storeA (vs := [.int .i64 ((jget crcOf s1).1.budget), .int .i64 ((jget crcOf s1).1.margin), .int .i64 ((jget crcOf s1).1.credit), .slice aoG1 ((jget crcOf s1).1.l.length) cG1]) rfl rfl hB19 tyA32 rfl rfl (Nat.le_of_ble_eq_true rfl) (fun w249 hk250 hz251 hB252 => ?_)) rfl
          replace hB252 : Box w249 b14 [.int .i64 ((jget crcOf s1).1.budget), .int .i64 ((jget crcOf s1).1.margin), .int .i64 ((jget crcOf s1).1.credit), .slice aoG1 ((jget crcOf s1).1.l.length) cG1] 32 := hB252
          replace hK := hK.later hk250 (fun i hi hS => by have h1 : i = b14 := hS; omega)
          replace hB6 := hB6.kp hk250 (by show ¬ b1 = b14; omega)
          replace hB12 := hB12.kp hk250 (by show ¬ b7 = b14; omega)
          replace hB35 := hB35.kp hk250 (by show ¬ b30 = b14; omega)
          replace hB239 := hB239.kp hk250 (by show ¬ b234 = b14; omega)
          replace hT := hT.kp hk250 (fun h => by have h2 : (0 : Nat) = b14 := h; omega)
          replace hR0 := hR0.kp hk250 (fun i _ hF hS => by have h1 : i < w.heap.size := hF; have h2 : i = b14 := hS; omega)
          replace hR1 := hR1.kp hk250 (fun i _ hF hS => by have h1 : i < w.heap.size := hF; have h2 : i = b14 := hS; omega)
          replace hG0 := hG0.kp hk250 (fun i _ hF hS => by have h1 : w15.heap.size ≤ i ∧ i < w27.heap.size := hF; have h2 : i = b14 := hS; omega)
          replace hTr_w27 := hTr_w27.trans (hk250.mono (fun _ _ _ => trivial))
          replace hG1 := hG1.kp hk250 (fun i _ hF hS => by have h1 : w36.heap.size ≤ i ∧ i < w231.heap.size := hF; have h2 : i = b14 := hS; omega)
          replace hTr_w231 := hTr_w231.trans (hk250.mono (fun _ _ _ => trivial))
          replace hB19 := hB252
          refine rl_nil ?_
          refine k_tn ?_
          refine cw_norm [(2, .pointer (some ⟨b7, 0, none⟩)), (5, .pointer (some ⟨b14, 0, none⟩)), (10, .int .u64 ((jget crcOf s1).2.1)), (13, .agg #[.slice a0 s0.length p0, .slice a1 s1.length p1]), (14, .int .i64 (1))] ⟨rfl, rfl, rfl, rfl, rfl, trivial⟩ (fun ρn253 => ?_)
          refine cw_region rfl ?_
          refine rl (o_move (v := .int .u64 ((jget crcOf s1).2.1)) rfl ?_) rfl
          refine rl (o_assign (v := .int .u64 ((jget crcOf s1).2.1)) rfl ?_) rfl
          refine rl_nil ?_
          refine k_bn ?_
          refine k_tn ?_
          refine cw_norm [(2, .pointer (some ⟨b7, 0, none⟩)), (5, .pointer (some ⟨b14, 0, none⟩)), (6, .int .u64 ((jget crcOf s1).2.1)), (13, .agg #[.slice a0 s0.length p0, .slice a1 s1.length p1]), (14, .int .i64 (1))] ⟨rfl, rfl, rfl, rfl, rfl, trivial⟩ (fun ρn254 => ?_)
          refine cw_region rfl ?_
          refine rl (o_add64 (a := 1) (b := 1) rfl rfl (by omega) (by omega) ?_) rfl
          refine rl (o_move (v := .int .i64 (2)) rfl ?_) rfl
          refine rl_nil ?_
          refine k_tn ?_
          refine cwl_unroll ?_
          refine cw_seq ?_
          refine cw_region rfl ?_
          refine rl (o_lss rfl rfl ?_) rfl
          refine rl_nil ?_
          refine k_tn ?_
          refine cw_norm [(2, .pointer (some ⟨b7, 0, none⟩)), (5, .pointer (some ⟨b14, 0, none⟩)), (6, .int .u64 ((jget crcOf s1).2.1)), (13, .agg #[.slice a0 s0.length p0, .slice a1 s1.length p1]), (14, .int .i64 (2)), (15, .bool (false))] ⟨rfl, rfl, rfl, rfl, rfl, rfl, trivial⟩ (fun ρn255 => ?_)
          refine cw_seq ?_
          refine cw_condF rfl ?_
          refine cw_exit ?_
          refine k_te ?_
          refine k_te ?_
          refine k_bh ?_
          refine k_tn ?_
          refine cw_norm [(2, .pointer (some ⟨b7, 0, none⟩)), (5, .pointer (some ⟨b14, 0, none⟩)), (6, .int .u64 ((jget crcOf s1).2.1))] ⟨rfl, rfl, rfl, trivial⟩ (fun ρn256 => ?_)
          refine cw_reg rfl ?_
          refine rl (o_loadBA (ds := [.int .i64 ((jget crcOf s1).1.budget), .int .i64 ((jget crcOf s1).1.margin), .int .i64 ((jget crcOf s1).1.credit), .slice aoG1 ((jget crcOf s1).1.l.length) cG1]) rfl hB19 tyA32 rfl rfl ?_) rfl
          refine rl (o_move (v := .int .u64 ((jget crcOf s1).2.1)) rfl ?_) rfl
          refine rl (o_move (v := .int .u64 ((jget crcOf s1).2.1)) rfl ?_) rfl
          refine rl (o_gtr rfl rfl ?_) rfl
          refine rl0 (o_storeA (vs := [.int .i64 ((jget crcOf s1).1.budget), .int .i64 ((jget crcOf s1).1.margin), .int .i64 ((jget crcOf s1).1.credit), .slice aoG1 ((jget crcOf s1).1.l.length) cG1]) rfl rfl hB12 tyA32 rfl rfl (Nat.le_of_ble_eq_true rfl) (fun w257 hk258 hz259 hB260 => ?_)) rfl
          replace hB260 : Box w257 b7 [.int .i64 ((jget crcOf s1).1.budget), .int .i64 ((jget crcOf s1).1.margin), .int .i64 ((jget crcOf s1).1.credit), .slice aoG1 ((jget crcOf s1).1.l.length) cG1] 32 := hB260
          replace hK := hK.later hk258 (fun i hi hS => by have h1 : i = b7 := hS; omega)
          replace hB6 := hB6.kp hk258 (by show ¬ b1 = b7; omega)
          replace hB19 := hB19.kp hk258 (by show ¬ b14 = b7; omega)
          replace hB35 := hB35.kp hk258 (by show ¬ b30 = b7; omega)
          replace hB239 := hB239.kp hk258 (by show ¬ b234 = b7; omega)
          replace hT := hT.kp hk258 (fun h => by have h2 : (0 : Nat) = b7 := h; omega)
          replace hR0 := hR0.kp hk258 (fun i _ hF hS => by have h1 : i < w.heap.size := hF; have h2 : i = b7 := hS; omega)
          replace hR1 := hR1.kp hk258 (fun i _ hF hS => by have h1 : i < w.heap.size := hF; have h2 : i = b7 := hS; omega)
          replace hG0 := hG0.kp hk258 (fun i _ hF hS => by have h1 : w15.heap.size ≤ i ∧ i < w27.heap.size := hF; have h2 : i = b7 := hS; omega)
          replace hTr_w27 := hTr_w27.trans (hk258.mono (fun _ _ _ => trivial))
          replace hG1 := hG1.kp hk258 (fun i _ hF hS => by have h1 : w36.heap.size ≤ i ∧ i < w231.heap.size := hF; have h2 : i = b7 := hS; omega)
          replace hTr_w231 := hTr_w231.trans (hk258.mono (fun _ _ _ => trivial))
          replace hB12 := hB260
          refine rl (o_assign (v := .int .u64 ((jget crcOf s1).2.1)) rfl ?_) rfl
          refine rl (o_assign (v := .bool (decide (0 < (jget crcOf s1).2.1))) rfl ?_) rfl
          refine rl_nil ?_
          refine cw_ret ?_
          refine ret_intro (v := .tuple #[.agg #[.int .i64 ((jget crcOf s1).1.budget), .int .i64 ((jget crcOf s1).1.margin), .int .i64 ((jget crcOf s1).1.credit), .slice aoG1 ((jget crcOf s1).1.l.length) cG1], .int .u64 ((jget crcOf s1).2.1), .bool (decide (0 < (jget crcOf s1).2.1))]) (res_ok (vs := [.agg #[.int .i64 ((jget crcOf s1).1.budget), .int .i64 ((jget crcOf s1).1.margin), .int .i64 ((jget crcOf s1).1.credit), .slice aoG1 ((jget crcOf s1).1.l.length) cG1], .int .u64 ((jget crcOf s1).2.1), .bool (decide (0 < (jget crcOf s1).2.1))]) rfl ⟨⟨_, rfl, run_loadA tyA32 rfl (hB12.at_ 0 4)⟩, rfl, rfl, trivial⟩) hK ?_
          have e0 : jstep crcOf 0 s0 (.zero, 0) = (.zero, 0) := jstep_f (by omega)
          have e1 : jstep crcOf 1 s1 (.zero, 0) = ((jget crcOf s1).1, (jget crcOf s1).2.1) := jstep_t (by omega) (by omega) (by omega)
          have hj : (jload crcOf ⟨s0, s1, la, wa, wr⟩) = ((jget crcOf s1).1, (jget crcOf s1).2.1) := by (unfold jload; rw [e0, e1])
          rw [hj]
          exact ⟨_, aoG1, cG1, rfl, rfl, hG1.mono (fun b _ h => by have h1 : w36.heap.size ≤ b ∧ b < w231.heap.size := h; omega)⟩
        · skip
          refine cw_skip ?_
          refine k_bn ?_
          refine k_tn ?_
          refine cw_norm [(2, .pointer (some ⟨b7, 0, none⟩)), (5, .pointer (some ⟨b14, 0, none⟩)), (6, .int .u64 (0)), (13, .agg #[.slice a0 s0.length p0, .slice a1 s1.length p1]), (14, .int .i64 (1))] ⟨rfl, rfl, rfl, rfl, rfl, trivial⟩ (fun ρn261 => ?_)
          refine cw_region rfl ?_
          refine rl (o_add64 (a := 1) (b := 1) rfl rfl (by omega) (by omega) ?_) rfl
          refine rl (o_move (v := .int .i64 (2)) rfl ?_) rfl
          refine rl_nil ?_
          refine k_tn ?_
          refine cwl_unroll ?_
          refine cw_seq ?_
          refine cw_region rfl ?_
          refine rl (o_lss rfl rfl ?_) rfl
          refine rl_nil ?_
          refine k_tn ?_
          refine cw_norm [(2, .pointer (some ⟨b7, 0, none⟩)), (5, .pointer (some ⟨b14, 0, none⟩)), (6, .int .u64 (0)), (13, .agg #[.slice a0 s0.length p0, .slice a1 s1.length p1]), (14, .int .i64 (2)), (15, .bool (false))] ⟨rfl, rfl, rfl, rfl, rfl, rfl, trivial⟩ (fun ρn262 => ?_)
          refine cw_seq ?_
          refine cw_condF rfl ?_
          refine cw_exit ?_
          refine k_te ?_
          refine k_te ?_
          refine k_bh ?_
          refine k_tn ?_
          refine cw_norm [(2, .pointer (some ⟨b7, 0, none⟩)), (5, .pointer (some ⟨b14, 0, none⟩)), (6, .int .u64 (0))] ⟨rfl, rfl, rfl, trivial⟩ (fun ρn263 => ?_)
          refine cw_reg rfl ?_
          refine rl (o_loadBA (ds := [.int .i64 (0), .int .i64 (0), .int .i64 (0), .slice none 0 0]) rfl hB19 tyA32 rfl rfl ?_) rfl
          refine rl (o_move (v := .int .u64 (0)) rfl ?_) rfl
          refine rl (o_move (v := .int .u64 (0)) rfl ?_) rfl
          refine rl (o_gtr rfl rfl ?_) rfl
          refine rl0 (o_storeA (vs := [.int .i64 (0), .int .i64 (0), .int .i64 (0), .slice none 0 0]) rfl rfl hB12 tyA32 rfl rfl (Nat.le_of_ble_eq_true rfl) (fun w264 hk265 hz266 hB267 => ?_)) rfl
          replace hB267 : Box w264 b7 [.int .i64 (0), .int .i64 (0), .int .i64 (0), .slice none 0 0] 32 := hB267
          replace hK := hK.later hk265 (fun i hi hS => by have h1 : i = b7 := hS; omega)
          replace hB6 := hB6.kp hk265 (by show ¬ b1 = b7; omega)
          replace hB19 := hB19.kp hk265 (by show ¬ b14 = b7; omega)
          replace hB35 := hB35.kp hk265 (by show ¬ b30 = b7; omega)
          replace hB239 := hB239.kp hk265 (by show ¬ b234 = b7; omega)
          replace hT := hT.kp hk265 (fun h => by have h2 : (0 : Nat) = b7 := h; omega)
          replace hR0 := hR0.kp hk265 (fun i _ hF hS => by have h1 : i < w.heap.size := hF; have h2 : i = b7 := hS; omega)
          replace hR1 := hR1.kp hk265 (fun i _ hF hS => by have h1 : i < w.heap.size := hF; have h2 : i = b7 := hS; omega)
          replace hG0 := hG0.kp hk265 (fun i _ hF hS => by have h1 : w15.heap.size ≤ i ∧ i < w27.heap.size := hF; have h2 : i = b7 := hS; omega)
          replace hTr_w27 := hTr_w27.trans (hk265.mono (fun _ _ _ => trivial))
          replace hG1 := hG1.kp hk265 (fun i _ hF hS => by have h1 : w36.heap.size ≤ i ∧ i < w231.heap.size := hF; have h2 : i = b7 := hS; omega)
          replace hTr_w231 := hTr_w231.trans (hk265.mono (fun _ _ _ => trivial))
          replace hB12 := hB267
          refine rl (o_assign (v := .int .u64 (0)) rfl ?_) rfl
          refine rl (o_assign (v := .bool (false)) rfl ?_) rfl
          refine rl_nil ?_
          refine cw_ret ?_
          refine ret_intro (v := .tuple #[.agg #[.int .i64 (0), .int .i64 (0), .int .i64 (0), .slice none 0 0], .int .u64 (0), .bool (false)]) (res_ok (vs := [.agg #[.int .i64 (0), .int .i64 (0), .int .i64 (0), .slice none 0 0], .int .u64 (0), .bool (false)]) rfl ⟨⟨_, rfl, run_loadA tyA32 rfl (hB12.at_ 0 4)⟩, rfl, rfl, trivial⟩) hK ?_
          have e0 : jstep crcOf 0 s0 (.zero, 0) = (.zero, 0) := jstep_f (by omega)
          have e1 : jstep crcOf 1 s1 (.zero, 0) = (.zero, 0) := jstep_f (by omega)
          have hj : (jload crcOf ⟨s0, s1, la, wa, wr⟩) = (.zero, 0) := by (unfold jload; rw [e0, e1])
          rw [hj]
          exact ⟨0, none, 0, rfl, rfl, Rd.nil _ _⟩
      · skip
        refine rlo ?_ (want_f rfl (decide_eq_false h246) (by decide))
        refine rlo ?_ (want_f rfl (decide_eq_false h246) (by decide))
        refine rlo ?_ (want_f rfl (decide_eq_false h246) (by decide))
        refine rl (o_pickF (v := .bool (false)) rfl (decide_eq_false h246) rfl ?_) rfl
        refine rl_nil ?_
        refine k_tn ?_
        refine cw_norm [(2, .pointer (some ⟨b7, 0, none⟩)), (5, .pointer (some ⟨b14, 0, none⟩)), (6, .int .u64 (0)), (9, .pointer (some ⟨b234, 0, none⟩)), (10, .int .u64 ((jget crcOf s1).2.1)), (13, .agg #[.slice a0 s0.length p0, .slice a1 s1.length p1]), (14, .int .i64 (1)), (37, .bool (false))] ⟨rfl, rfl, rfl, rfl, rfl, rfl, rfl, rfl, trivial⟩ (fun ρn268 => ?_)
        refine cw_condF rfl ?_
        refine cw_skip ?_
        refine k_bn ?_
        refine k_tn ?_
        refine cw_norm [(2, .pointer (some ⟨b7, 0, none⟩)), (5, .pointer (some ⟨b14, 0, none⟩)), (6, .int .u64 (0)), (13, .agg #[.slice a0 s0.length p0, .slice a1 s1.length p1]), (14, .int .i64 (1))] ⟨rfl, rfl, rfl, rfl, rfl, trivial⟩ (fun ρn269 => ?_)
        refine cw_region rfl ?_
        refine rl (o_add64 (a := 1) (b := 1) rfl rfl (by omega) (by omega) ?_) rfl
        refine rl (o_move (v := .int .i64 (2)) rfl ?_) rfl
        refine rl_nil ?_
        refine k_tn ?_
        refine cwl_unroll ?_
        refine cw_seq ?_
        refine cw_region rfl ?_
        refine rl (o_lss rfl rfl ?_) rfl
        refine rl_nil ?_
        refine k_tn ?_
        refine cw_norm [(2, .pointer (some ⟨b7, 0, none⟩)), (5, .pointer (some ⟨b14, 0, none⟩)), (6, .int .u64 (0)), (13, .agg #[.slice a0 s0.length p0, .slice a1 s1.length p1]), (14, .int .i64 (2)), (15, .bool (false))] ⟨rfl, rfl, rfl, rfl, rfl, rfl, trivial⟩ (fun ρn270 => ?_)
        refine cw_seq ?_
        refine cw_condF rfl ?_
        refine cw_exit ?_
        refine k_te ?_
        refine k_te ?_
        refine k_bh ?_
        refine k_tn ?_
        refine cw_norm [(2, .pointer (some ⟨b7, 0, none⟩)), (5, .pointer (some ⟨b14, 0, none⟩)), (6, .int .u64 (0))] ⟨rfl, rfl, rfl, trivial⟩ (fun ρn271 => ?_)
        refine cw_reg rfl ?_
        refine rl (o_loadBA (ds := [.int .i64 (0), .int .i64 (0), .int .i64 (0), .slice none 0 0]) rfl hB19 tyA32 rfl rfl ?_) rfl
        refine rl (o_move (v := .int .u64 (0)) rfl ?_) rfl
        refine rl (o_move (v := .int .u64 (0)) rfl ?_) rfl
        refine rl (o_gtr rfl rfl ?_) rfl
        refine rl0 (o_storeA (vs := [.int .i64 (0), .int .i64 (0), .int .i64 (0), .slice none 0 0]) rfl rfl hB12 tyA32 rfl rfl (Nat.le_of_ble_eq_true rfl) (fun w272 hk273 hz274 hB275 => ?_)) rfl
        replace hB275 : Box w272 b7 [.int .i64 (0), .int .i64 (0), .int .i64 (0), .slice none 0 0] 32 := hB275
        replace hK := hK.later hk273 (fun i hi hS => by have h1 : i = b7 := hS; omega)
        replace hB6 := hB6.kp hk273 (by show ¬ b1 = b7; omega)
        replace hB19 := hB19.kp hk273 (by show ¬ b14 = b7; omega)
        replace hB35 := hB35.kp hk273 (by show ¬ b30 = b7; omega)
        replace hB239 := hB239.kp hk273 (by show ¬ b234 = b7; omega)
        replace hT := hT.kp hk273 (fun h => by have h2 : (0 : Nat) = b7 := h; omega)
        replace hR0 := hR0.kp hk273 (fun i _ hF hS => by have h1 : i < w.heap.size := hF; have h2 : i = b7 := hS; omega)
        replace hR1 := hR1.kp hk273 (fun i _ hF hS => by have h1 : i < w.heap.size := hF; have h2 : i = b7 := hS; omega)
        replace hG0 := hG0.kp hk273 (fun i _ hF hS => by have h1 : w15.heap.size ≤ i ∧ i < w27.heap.size := hF; have h2 : i = b7 := hS; omega)
        replace hTr_w27 := hTr_w27.trans (hk273.mono (fun _ _ _ => trivial))
        replace hG1 := hG1.kp hk273 (fun i _ hF hS => by have h1 : w36.heap.size ≤ i ∧ i < w231.heap.size := hF; have h2 : i = b7 := hS; omega)
        replace hTr_w231 := hTr_w231.trans (hk273.mono (fun _ _ _ => trivial))
        replace hB12 := hB275
        refine rl (o_assign (v := .int .u64 (0)) rfl ?_) rfl
        refine rl (o_assign (v := .bool (false)) rfl ?_) rfl
        refine rl_nil ?_
        refine cw_ret ?_
        refine ret_intro (v := .tuple #[.agg #[.int .i64 (0), .int .i64 (0), .int .i64 (0), .slice none 0 0], .int .u64 (0), .bool (false)]) (res_ok (vs := [.agg #[.int .i64 (0), .int .i64 (0), .int .i64 (0), .slice none 0 0], .int .u64 (0), .bool (false)]) rfl ⟨⟨_, rfl, run_loadA tyA32 rfl (hB12.at_ 0 4)⟩, rfl, rfl, trivial⟩) hK ?_
        have e0 : jstep crcOf 0 s0 (.zero, 0) = (.zero, 0) := jstep_f (by omega)
        have e1 : jstep crcOf 1 s1 (.zero, 0) = (.zero, 0) := jstep_f (by omega)
        have hj : (jload crcOf ⟨s0, s1, la, wa, wr⟩) = (.zero, 0) := by (unfold jload; rw [e0, e1])
        rw [hj]
        exact ⟨0, none, 0, rfl, rfl, Rd.nil _ _⟩
    · skip
      refine rlo ?_ (want_f rfl (decide_eq_false h245) (by decide))
      refine rlo ?_ (want_f rfl (decide_eq_false h245) (by decide))
      refine rlo ?_ (want_f rfl (decide_eq_false h245) (by decide))
      refine rlo ?_ (want_f rfl (decide_eq_false h245) (by decide))
      refine rlo ?_ (want_f rfl (decide_eq_false h245) (by decide))
      refine rl (o_pickF (v := .bool (false)) rfl (decide_eq_false h245) rfl ?_) rfl
      refine rl (o_move (v := .bool (false)) rfl ?_) rfl
      refine rlo ?_ (want_f rfl (rfl) (by decide))
      refine rlo ?_ (want_f rfl (rfl) (by decide))
      refine rlo ?_ (want_f rfl (rfl) (by decide))
      refine rl (o_pickF (v := .bool (false)) rfl (rfl) rfl ?_) rfl
      refine rl_nil ?_
      refine k_tn ?_
      refine cw_norm [(2, .pointer (some ⟨b7, 0, none⟩)), (5, .pointer (some ⟨b14, 0, none⟩)), (6, .int .u64 (0)), (9, .pointer (some ⟨b234, 0, none⟩)), (10, .int .u64 ((jget crcOf s1).2.1)), (13, .agg #[.slice a0 s0.length p0, .slice a1 s1.length p1]), (14, .int .i64 (1)), (37, .bool (false))] ⟨rfl, rfl, rfl, rfl, rfl, rfl, rfl, rfl, trivial⟩ (fun ρn276 => ?_)
      refine cw_condF rfl ?_
      refine cw_skip ?_
      refine k_bn ?_
      refine k_tn ?_
      refine cw_norm [(2, .pointer (some ⟨b7, 0, none⟩)), (5, .pointer (some ⟨b14, 0, none⟩)), (6, .int .u64 (0)), (13, .agg #[.slice a0 s0.length p0, .slice a1 s1.length p1]), (14, .int .i64 (1))] ⟨rfl, rfl, rfl, rfl, rfl, trivial⟩ (fun ρn277 => ?_)
      refine cw_region rfl ?_
      refine rl (o_add64 (a := 1) (b := 1) rfl rfl (by omega) (by omega) ?_) rfl
      refine rl (o_move (v := .int .i64 (2)) rfl ?_) rfl
      refine rl_nil ?_
      refine k_tn ?_
      refine cwl_unroll ?_
      refine cw_seq ?_
      refine cw_region rfl ?_
      refine rl (o_lss rfl rfl ?_) rfl
      refine rl_nil ?_
      refine k_tn ?_
      refine cw_norm [(2, .pointer (some ⟨b7, 0, none⟩)), (5, .pointer (some ⟨b14, 0, none⟩)), (6, .int .u64 (0)), (13, .agg #[.slice a0 s0.length p0, .slice a1 s1.length p1]), (14, .int .i64 (2)), (15, .bool (false))] ⟨rfl, rfl, rfl, rfl, rfl, rfl, trivial⟩ (fun ρn278 => ?_)
      refine cw_seq ?_
      refine cw_condF rfl ?_
      refine cw_exit ?_
      refine k_te ?_
      refine k_te ?_
      refine k_bh ?_
      refine k_tn ?_
      refine cw_norm [(2, .pointer (some ⟨b7, 0, none⟩)), (5, .pointer (some ⟨b14, 0, none⟩)), (6, .int .u64 (0))] ⟨rfl, rfl, rfl, trivial⟩ (fun ρn279 => ?_)
      refine cw_reg rfl ?_
      refine rl (o_loadBA (ds := [.int .i64 (0), .int .i64 (0), .int .i64 (0), .slice none 0 0]) rfl hB19 tyA32 rfl rfl ?_) rfl
      refine rl (o_move (v := .int .u64 (0)) rfl ?_) rfl
      refine rl (o_move (v := .int .u64 (0)) rfl ?_) rfl
      refine rl (o_gtr rfl rfl ?_) rfl
      refine rl0 (o_storeA (vs := [.int .i64 (0), .int .i64 (0), .int .i64 (0), .slice none 0 0]) rfl rfl hB12 tyA32 rfl rfl (Nat.le_of_ble_eq_true rfl) (fun w280 hk281 hz282 hB283 => ?_)) rfl
      replace hB283 : Box w280 b7 [.int .i64 (0), .int .i64 (0), .int .i64 (0), .slice none 0 0] 32 := hB283
      replace hK := hK.later hk281 (fun i hi hS => by have h1 : i = b7 := hS; omega)
      replace hB6 := hB6.kp hk281 (by show ¬ b1 = b7; omega)
      replace hB19 := hB19.kp hk281 (by show ¬ b14 = b7; omega)
      replace hB35 := hB35.kp hk281 (by show ¬ b30 = b7; omega)
      replace hB239 := hB239.kp hk281 (by show ¬ b234 = b7; omega)
      replace hT := hT.kp hk281 (fun h => by have h2 : (0 : Nat) = b7 := h; omega)
      replace hR0 := hR0.kp hk281 (fun i _ hF hS => by have h1 : i < w.heap.size := hF; have h2 : i = b7 := hS; omega)
      replace hR1 := hR1.kp hk281 (fun i _ hF hS => by have h1 : i < w.heap.size := hF; have h2 : i = b7 := hS; omega)
      replace hG0 := hG0.kp hk281 (fun i _ hF hS => by have h1 : w15.heap.size ≤ i ∧ i < w27.heap.size := hF; have h2 : i = b7 := hS; omega)
      replace hTr_w27 := hTr_w27.trans (hk281.mono (fun _ _ _ => trivial))
      replace hG1 := hG1.kp hk281 (fun i _ hF hS => by have h1 : w36.heap.size ≤ i ∧ i < w231.heap.size := hF; have h2 : i = b7 := hS; omega)
      replace hTr_w231 := hTr_w231.trans (hk281.mono (fun _ _ _ => trivial))
      replace hB12 := hB283
      refine rl (o_assign (v := .int .u64 (0)) rfl ?_) rfl
      refine rl (o_assign (v := .bool (false)) rfl ?_) rfl
      refine rl_nil ?_
      refine cw_ret ?_
      refine ret_intro (v := .tuple #[.agg #[.int .i64 (0), .int .i64 (0), .int .i64 (0), .slice none 0 0], .int .u64 (0), .bool (false)]) (res_ok (vs := [.agg #[.int .i64 (0), .int .i64 (0), .int .i64 (0), .slice none 0 0], .int .u64 (0), .bool (false)]) rfl ⟨⟨_, rfl, run_loadA tyA32 rfl (hB12.at_ 0 4)⟩, rfl, rfl, trivial⟩) hK ?_
      have e0 : jstep crcOf 0 s0 (.zero, 0) = (.zero, 0) := jstep_f (by omega)
      have e1 : jstep crcOf 1 s1 (.zero, 0) = (.zero, 0) := jstep_f (by omega)
      have hj : (jload crcOf ⟨s0, s1, la, wa, wr⟩) = (.zero, 0) := by (unfold jload; rw [e0, e1])
      rw [hj]
      exact ⟨0, none, 0, rfl, rfl, Rd.nil _ _⟩
end Go.Proofs.YtcmlklnelipacaaDoor

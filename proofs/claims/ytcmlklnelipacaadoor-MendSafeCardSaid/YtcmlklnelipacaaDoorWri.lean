import Derived.Test.YtcmlklnelipacaaDoorFrom
set_option linter.unusedVariables false
set_option linter.unusedSimpArgs false
set_option maxRecDepth 100000
namespace Go.Proofs.YtcmlklnelipacaaDoor
open Go.RowKit Plain
theorem fa27_1 : FieldAt Tryd.prog 27 1 2 := fun a w => by
  simp [Instr.fieldAt, Instr.sureAddr, fieldPlace, Tryd.runUnderlying27, Tryd.sizeOf3]
theorem fa27_2 : FieldAt Tryd.prog 27 2 3 := fun a w => by
  simp [Instr.fieldAt, Instr.sureAddr, fieldPlace, Tryd.runUnderlying27, Tryd.sizeOf24]
theorem fa27_3 : FieldAt Tryd.prog 27 3 4 := fun a w => by
  simp [Instr.fieldAt, Instr.sureAddr, fieldPlace, Tryd.runUnderlying27, Tryd.sizeOf4]
theorem tyS4 : TyS Tryd.prog 4 := ⟨Tryd.isAgg4, Tryd.sizeOf4⟩
theorem o_remE {P : Program} {ρ : Env} {w : World} {K : Value → World → Prop} {dst : Option Tmp} {ty : TypeId} {pos : String} {aft : Array Edge} {gd : Option (Nat × Bool)} {t t' : TypeId} {x y : Operand} {k : IntKind} {a b : Int} (c : Int) (hx : ev ρ x = .int k a) (hy : ev ρ y = .int k b) (hb : 0 < b) (ha : 0 ≤ a) (hc : a % b = c) (hk : K (.int k c) w) : OpK P ⟨dst, .binOp .rem t x y t', ty, pos, aft, gd⟩ ρ w K :=
  o_rem hx hy hb ha (hc ▸ hk)
theorem o_addE {P : Program} {ρ : Env} {w : World} {K : Value → World → Prop} {dst : Option Tmp} {ty : TypeId} {pos : String} {aft : Array Edge} {gd : Option (Nat × Bool)} {t t' : TypeId} {x y : Operand} {a b : Int} (hx : ev ρ x = .int .u64 a) (hy : ev ρ y = .int .u64 b) (h0 : 0 ≤ a + b) (h1 : a + b ≤ 18446744073709551615) (hk : K (.int .u64 (a + b)) w) : OpK P ⟨dst, .binOp .add t x y t', ty, pos, aft, gd⟩ ρ w K :=
  o_add hx hy (by rw [wrap_in (k := .u64) h0 h1]; exact hk)
set_option maxHeartbeats 8000000 in
theorem write0_ok {F0 F1 Fw : Nat → Prop} (a0 a1 aw : Option Addr) (p0 p1 pw : Nat) (s0 s1 wa : List Int) (la : Int) (wr : Bool) {F : Nat → Prop} (b m c : Int) (ao : Option Addr) (cp : Nat) (ps : List Permit) (n0 : Nat) (n1 : Nat) (nw : Nat) (n4 : Nat) (w : World) (hl_n4 : n4 = ps.length) (hl_nw : nw = wa.length) (hl_n1 : n1 = s1.length) (hl_n0 : n0 = s0.length) (hn0 : n0 ≤ 1000000) (hn1 : n1 ≤ 1000000) (hB0 : isB s0) (hB1 : isB s1) (hsq : 0 ≤ (jload crcOf ⟨s0, s1, la, wa, wr⟩).2 ∧ (jload crcOf ⟨s0, s1, la, wa, wr⟩).2 ≤ 1000000) (hpar : ((jload crcOf ⟨s0, s1, la, wa, wr⟩).2 + 1) % 2 = 0) (hn : n4 ≤ 1000) (hp : ∀ p ∈ ps, 0 ≤ p.car ∧ p.car < 4294967296 ∧ 0 ≤ p.peak ∧ p.peak < 4294967296) (hb : 0 ≤ b ∧ b < 4294967296) (hm : 0 ≤ m ∧ m < 4294967296) (hT : Tab w) (hR0 : Rd F0 w 1 (.slice a0 n0 p0) (s0.map encB)) (hR1 : Rd F1 w 1 (.slice a1 n1 p1) (s1.map encB)) (hR : Rd F w 2 (.slice ao n4 cp) (ps.map encP)) :
    Calls Tryd.prog 11 #[.agg #[.slice a0 n0 p0, .slice a1 n1 p1, .int .i64 (la), .slice aw nw pw, .bool (wr)], .agg #[.int .i64 (b), .int .i64 (m), .int .i64 (c), .slice ao n4 cp]] w (Ret Non w fun v w' => ∃ (ao3 : Option Addr) (c3 : Nat), v = .agg #[.slice ao3 ((jput crcOf ⟨b, m, c, ps⟩ ((jload crcOf ⟨s0, s1, la, wa, wr⟩).2 + 1)).length) c3, .slice a1 s1.length p1, .int .i64 (0), .slice a0 s0.length p0, .bool (true)] ∧ Rd (fun b => w.heap.size ≤ b) w' 1 (.slice ao3 ((jput crcOf ⟨b, m, c, ps⟩ ((jload crcOf ⟨s0, s1, la, wa, wr⟩).2 + 1)).length) c3) ((jput crcOf ⟨b, m, c, ps⟩ ((jload crcOf ⟨s0, s1, la, wa, wr⟩).2 + 1)).map encB)) := by
  have hK := Kp.refl Non w
  subst hl_n0
  subst hl_n1
  subst hl_nw
  subst hl_n4
  replace hR0 := hR0.old
  replace hR1 := hR1.old
  replace hR := hR.old
  have h00 := hT.1
  refine calls_cw Tryd.func11 rfl (Nat.le_of_ble_eq_true rfl) ?_
  refine cw_seq ?_
  refine cw_region rfl ?_
  refine rl (o_box (v := .agg #[.slice a0 s0.length p0, .slice a1 s1.length p1, .int .i64 (la), .slice aw wa.length pw, .bool (wr)]) rfl (fun b1 w2 hb3 hz4 hk5 hB6 => ?_)) rfl
  replace hB6 : Box w2 b1 [.slice a0 s0.length p0, .slice a1 s1.length p1, .int .i64 (la), .slice aw wa.length pw, .bool (wr)] 27 := hB6
  have hs_b1 := hK.size
  replace hK := hK.trans (Kp.ext hk5)
  replace hT := hT.ext hk5
  replace hR0 := hR0.ext hk5
  replace hR1 := hR1.ext hk5
  replace hR := hR.ext hk5
  refine rl (o_box (v := .agg #[.int .i64 (b), .int .i64 (m), .int .i64 (c), .slice ao ps.length cp]) rfl (fun b7 w8 hb9 hz10 hk11 hB12 => ?_)) rfl
  replace hB12 : Box w8 b7 [.int .i64 (b), .int .i64 (m), .int .i64 (c), .slice ao ps.length cp] 32 := hB12
  have hs_b7 := hK.size
  have hl_b1_b7 := hB6.lt
  replace hK := hK.trans (Kp.ext hk11)
  replace hB6 := hB6.ext hk11
  replace hT := hT.ext hk11
  replace hR0 := hR0.ext hk11
  replace hR1 := hR1.ext hk11
  replace hR := hR.ext hk11
  refine rl (o_alloc Tryd.zeroValue27 (fun b13 w14 hb15 hz16 hk17 hB18 => ?_)) rfl
  replace hB18 : Box w14 b13 [.slice none 0 0, .slice none 0 0, .int .i64 (0), .slice none 0 0, .bool (false)] 27 := hB18
  have hs_b13 := hK.size
  have hl_b1_b13 := hB6.lt
  have hl_b7_b13 := hB12.lt
  replace hK := hK.trans (Kp.ext hk17)
  replace hB6 := hB6.ext hk17
  replace hB12 := hB12.ext hk17
  replace hT := hT.ext hk17
  replace hR0 := hR0.ext hk17
  replace hR1 := hR1.ext hk17
  replace hR := hR.ext hk17
  refine rl_nil ?_
  refine k_tn ?_
  refine cw_norm [(2, .pointer (some ⟨b1, 0, none⟩)), (3, .pointer (some ⟨b7, 0, none⟩)), (4, .pointer (some ⟨b13, 0, none⟩))] ⟨rfl, rfl, rfl, trivial⟩ (fun ρn19 => ?_)
  refine cw_seq ?_
  refine cw_region rfl ?_
  refine rl (o_loadBA (ds := [.slice a0 s0.length p0, .slice a1 s1.length p1, .int .i64 (la), .slice aw wa.length pw, .bool (wr)]) rfl hB6 tyA27 rfl rfl ?_) rfl
  refine rl (o_call (jload_ok (Fw := Fw) a0 a1 aw p0 p1 pw s0 s1 wa la wr _ _ _ _ rfl rfl rfl hn0 hn1 hB0 hB1 hT hR0 hR1) Tryd.call12 (fun v20 w21 hk22 hv23 => ?_)) rfl
  have hl_b1_w21 := hB6.lt
  have hl_b7_w21 := hB12.lt
  have hl_b13_w21 := hB18.lt
  have hs_w21 := hK.size
  obtain ⟨nL, aoL, cL, rfl, hnL, hL⟩ := hv23
  replace hK := hK.trans (Kp.ext hk22)
  replace hB6 := hB6.ext hk22
  replace hB12 := hB12.ext hk22
  replace hB18 := hB18.ext hk22
  replace hT := hT.ext hk22
  replace hR0 := hR0.ext hk22
  replace hR1 := hR1.ext hk22
  replace hR := hR.ext hk22
  refine rl (o_move (v := .tuple #[.agg #[.int .i64 ((jload crcOf ⟨s0, s1, la, wa, wr⟩).1.budget), .int .i64 ((jload crcOf ⟨s0, s1, la, wa, wr⟩).1.margin), .int .i64 ((jload crcOf ⟨s0, s1, la, wa, wr⟩).1.credit), .slice aoL nL cL], .int .u64 ((jload crcOf ⟨s0, s1, la, wa, wr⟩).2), .bool (decide (0 < (jload crcOf ⟨s0, s1, la, wa, wr⟩).2))]) rfl ?_) rfl
  refine rl (o_extract (vs := [.agg #[.int .i64 ((jload crcOf ⟨s0, s1, la, wa, wr⟩).1.budget), .int .i64 ((jload crcOf ⟨s0, s1, la, wa, wr⟩).1.margin), .int .i64 ((jload crcOf ⟨s0, s1, la, wa, wr⟩).1.credit), .slice aoL nL cL], .int .u64 ((jload crcOf ⟨s0, s1, la, wa, wr⟩).2), .bool (decide (0 < (jload crcOf ⟨s0, s1, la, wa, wr⟩).2))]) (v := .agg #[.int .i64 ((jload crcOf ⟨s0, s1, la, wa, wr⟩).1.budget), .int .i64 ((jload crcOf ⟨s0, s1, la, wa, wr⟩).1.margin), .int .i64 ((jload crcOf ⟨s0, s1, la, wa, wr⟩).1.credit), .slice aoL nL cL]) rfl rfl ?_) rfl
  refine rl (o_extract (vs := [.agg #[.int .i64 ((jload crcOf ⟨s0, s1, la, wa, wr⟩).1.budget), .int .i64 ((jload crcOf ⟨s0, s1, la, wa, wr⟩).1.margin), .int .i64 ((jload crcOf ⟨s0, s1, la, wa, wr⟩).1.credit), .slice aoL nL cL], .int .u64 ((jload crcOf ⟨s0, s1, la, wa, wr⟩).2), .bool (decide (0 < (jload crcOf ⟨s0, s1, la, wa, wr⟩).2))]) (v := .int .u64 ((jload crcOf ⟨s0, s1, la, wa, wr⟩).2)) rfl rfl ?_) rfl
  refine rl (o_extract (vs := [.agg #[.int .i64 ((jload crcOf ⟨s0, s1, la, wa, wr⟩).1.budget), .int .i64 ((jload crcOf ⟨s0, s1, la, wa, wr⟩).1.margin), .int .i64 ((jload crcOf ⟨s0, s1, la, wa, wr⟩).1.credit), .slice aoL nL cL], .int .u64 ((jload crcOf ⟨s0, s1, la, wa, wr⟩).2), .bool (decide (0 < (jload crcOf ⟨s0, s1, la, wa, wr⟩).2))]) (v := .bool (decide (0 < (jload crcOf ⟨s0, s1, la, wa, wr⟩).2))) rfl rfl ?_) rfl
  refine rl (o_alloc Tryd.zeroValue32 (fun b24 w25 hb26 hz27 hk28 hB29 => ?_)) rfl
  replace hB29 : Box w25 b24 [.int .i64 (0), .int .i64 (0), .int .i64 (0), .slice none 0 0] 32 := hB29
  have hs_b24 := hK.size
  have hl_b1_b24 := hB6.lt
  have hl_b7_b24 := hB12.lt
  have hl_b13_b24 := hB18.lt
  replace hK := hK.trans (Kp.ext hk28)
  replace hB6 := hB6.ext hk28
  replace hB12 := hB12.ext hk28
  replace hB18 := hB18.ext hk28
  replace hT := hT.ext hk28
  replace hR0 := hR0.ext hk28
  replace hR1 := hR1.ext hk28
  replace hR := hR.ext hk28
  refine rl0 (o_storeA (vs := [.int .i64 ((jload crcOf ⟨s0, s1, la, wa, wr⟩).1.budget), .int .i64 ((jload crcOf ⟨s0, s1, la, wa, wr⟩).1.margin), .int .i64 ((jload crcOf ⟨s0, s1, la, wa, wr⟩).1.credit), .slice aoL nL cL]) rfl rfl hB29 tyA32 rfl rfl (Nat.le_of_ble_eq_true rfl) (fun w30 hk31 hz32 hB33 => ?_)) rfl
  replace hB33 : Box w30 b24 [.int .i64 ((jload crcOf ⟨s0, s1, la, wa, wr⟩).1.budget), .int .i64 ((jload crcOf ⟨s0, s1, la, wa, wr⟩).1.margin), .int .i64 ((jload crcOf ⟨s0, s1, la, wa, wr⟩).1.credit), .slice aoL nL cL] 32 := hB33
  replace hK := hK.later hk31 (fun i hi hS => by have h1 : i = b24 := hS; omega)
  replace hB6 := hB6.kp hk31 (by show ¬ b1 = b24; omega)
  replace hB12 := hB12.kp hk31 (by show ¬ b7 = b24; omega)
  replace hB18 := hB18.kp hk31 (by show ¬ b13 = b24; omega)
  replace hT := hT.kp hk31 (fun h => by have h2 : (0 : Nat) = b24 := h; omega)
  replace hR0 := hR0.kp hk31 (fun i _ hF hS => by have h1 : i < w.heap.size := hF; have h2 : i = b24 := hS; omega)
  replace hR1 := hR1.kp hk31 (fun i _ hF hS => by have h1 : i < w.heap.size := hF; have h2 : i = b24 := hS; omega)
  replace hR := hR.kp hk31 (fun i _ hF hS => by have h1 : i < w.heap.size := hF; have h2 : i = b24 := hS; omega)
  replace hB29 := hB33
  refine rl (o_assign (v := .int .u64 ((jload crcOf ⟨s0, s1, la, wa, wr⟩).2)) rfl ?_) rfl
  refine rl (o_assign (v := .bool (decide (0 < (jload crcOf ⟨s0, s1, la, wa, wr⟩).2))) rfl ?_) rfl
  refine rl_nil ?_
  refine k_tn ?_
  refine cw_norm [(2, .pointer (some ⟨b1, 0, none⟩)), (3, .pointer (some ⟨b7, 0, none⟩)), (4, .pointer (some ⟨b13, 0, none⟩)), (6, .int .u64 ((jload crcOf ⟨s0, s1, la, wa, wr⟩).2))] ⟨rfl, rfl, rfl, rfl, trivial⟩ (fun ρn34 => ?_)
  refine cw_seq ?_
  refine cw_region rfl ?_
  refine rl (o_move (v := .int .u64 ((jload crcOf ⟨s0, s1, la, wa, wr⟩).2)) rfl ?_) rfl
  refine rl (o_addE rfl rfl (by omega) (by omega) ?_) rfl
  refine rl (o_assign (v := .int .u64 ((jload crcOf ⟨s0, s1, la, wa, wr⟩).2 + 1)) rfl ?_) rfl
  refine rl_nil ?_
  refine k_tn ?_
  refine cw_norm [(2, .pointer (some ⟨b1, 0, none⟩)), (3, .pointer (some ⟨b7, 0, none⟩)), (4, .pointer (some ⟨b13, 0, none⟩)), (6, .int .u64 ((jload crcOf ⟨s0, s1, la, wa, wr⟩).2 + 1))] ⟨rfl, rfl, rfl, rfl, trivial⟩ (fun ρn35 => ?_)
  refine cw_seq ?_
  refine cw_region rfl ?_
  refine rl (o_move (v := .int .u64 ((jload crcOf ⟨s0, s1, la, wa, wr⟩).2 + 1)) rfl ?_) rfl
  refine rl (o_remE 0 rfl rfl (by decide) (by omega) hpar ?_) rfl
  refine rl (o_convI (a := 0) rfl ⟨_, Tryd.underlying36⟩ Tryd.underlying3 (by show (-9223372036854775808 : Int) ≤ _; omega) (by show _ ≤ (9223372036854775807 : Int); omega) ?_) rfl
  refine rl (o_field rfl fa27_1 ?_) rfl
  refine rl0 (o_store1 (v := .int .i64 (0)) rfl rfl hB6 tyS3 rfl (Nat.le_of_ble_eq_true rfl) (fun w36 hk37 hz38 hB39 => ?_)) rfl
  replace hB39 : Box w36 b1 [.slice a0 s0.length p0, .slice a1 s1.length p1, .int .i64 (0), .slice aw wa.length pw, .bool (wr)] 27 := hB39
  replace hK := hK.later hk37 (fun i hi hS => by have h1 : i = b1 := hS; omega)
  replace hB12 := hB12.kp hk37 (by show ¬ b7 = b1; omega)
  replace hB18 := hB18.kp hk37 (by show ¬ b13 = b1; omega)
  replace hB29 := hB29.kp hk37 (by show ¬ b24 = b1; omega)
  replace hT := hT.kp hk37 (fun h => by have h2 : (0 : Nat) = b1 := h; omega)
  replace hR0 := hR0.kp hk37 (fun i _ hF hS => by have h1 : i < w.heap.size := hF; have h2 : i = b1 := hS; omega)
  replace hR1 := hR1.kp hk37 (fun i _ hF hS => by have h1 : i < w.heap.size := hF; have h2 : i = b1 := hS; omega)
  replace hR := hR.kp hk37 (fun i _ hF hS => by have h1 : i < w.heap.size := hF; have h2 : i = b1 := hS; omega)
  replace hB6 := hB39
  refine rl_nil ?_
  refine k_tn ?_
  refine cw_norm [(2, .pointer (some ⟨b1, 0, none⟩)), (3, .pointer (some ⟨b7, 0, none⟩)), (4, .pointer (some ⟨b13, 0, none⟩)), (6, .int .u64 ((jload crcOf ⟨s0, s1, la, wa, wr⟩).2 + 1))] ⟨rfl, rfl, rfl, rfl, trivial⟩ (fun ρn40 => ?_)
  refine cw_seq ?_
  refine cw_region rfl ?_
  refine rl (o_field rfl fa27_1 ?_) rfl
  refine rl (o_loadB (v := .int .i64 (0)) rfl hB6 tyS3 rfl ?_) rfl
  refine rl (o_field rfl fa27_0 ?_) rfl
  refine rl (o_idxArr (i := 0) rfl rfl Tryd.underlying25 Tryd.sizeOf24 (by omega) (by omega) ?_) rfl
  refine rl (o_loadB (v := .slice a0 s0.length p0) rfl hB6 tyS24 rfl ?_) rfl
  refine rl (o_field rfl fa27_2 ?_) rfl
  refine rl0 (o_store1 (v := .slice a0 s0.length p0) rfl rfl hB6 tyS24 rfl (Nat.le_of_ble_eq_true rfl) (fun w41 hk42 hz43 hB44 => ?_)) rfl
  replace hB44 : Box w41 b1 [.slice a0 s0.length p0, .slice a1 s1.length p1, .int .i64 (0), .slice a0 s0.length p0, .bool (wr)] 27 := hB44
  replace hK := hK.later hk42 (fun i hi hS => by have h1 : i = b1 := hS; omega)
  replace hB12 := hB12.kp hk42 (by show ¬ b7 = b1; omega)
  replace hB18 := hB18.kp hk42 (by show ¬ b13 = b1; omega)
  replace hB29 := hB29.kp hk42 (by show ¬ b24 = b1; omega)
  replace hT := hT.kp hk42 (fun h => by have h2 : (0 : Nat) = b1 := h; omega)
  replace hR0 := hR0.kp hk42 (fun i _ hF hS => by have h1 : i < w.heap.size := hF; have h2 : i = b1 := hS; omega)
  replace hR1 := hR1.kp hk42 (fun i _ hF hS => by have h1 : i < w.heap.size := hF; have h2 : i = b1 := hS; omega)
  replace hR := hR.kp hk42 (fun i _ hF hS => by have h1 : i < w.heap.size := hF; have h2 : i = b1 := hS; omega)
  replace hB6 := hB44
  refine rl_nil ?_
  refine k_tn ?_
  refine cw_norm [(2, .pointer (some ⟨b1, 0, none⟩)), (3, .pointer (some ⟨b7, 0, none⟩)), (4, .pointer (some ⟨b13, 0, none⟩)), (6, .int .u64 ((jload crcOf ⟨s0, s1, la, wa, wr⟩).2 + 1))] ⟨rfl, rfl, rfl, rfl, trivial⟩ (fun ρn45 => ?_)
  refine cw_seq ?_
  refine cw_region rfl ?_
  refine rl (o_field rfl fa27_3 ?_) rfl
  refine rl0 (o_store1 (v := .bool (true)) rfl rfl hB6 tyS4 rfl (Nat.le_of_ble_eq_true rfl) (fun w46 hk47 hz48 hB49 => ?_)) rfl
  replace hB49 : Box w46 b1 [.slice a0 s0.length p0, .slice a1 s1.length p1, .int .i64 (0), .slice a0 s0.length p0, .bool (true)] 27 := hB49
  replace hK := hK.later hk47 (fun i hi hS => by have h1 : i = b1 := hS; omega)
  replace hB12 := hB12.kp hk47 (by show ¬ b7 = b1; omega)
  replace hB18 := hB18.kp hk47 (by show ¬ b13 = b1; omega)
  replace hB29 := hB29.kp hk47 (by show ¬ b24 = b1; omega)
  replace hT := hT.kp hk47 (fun h => by have h2 : (0 : Nat) = b1 := h; omega)
  replace hR0 := hR0.kp hk47 (fun i _ hF hS => by have h1 : i < w.heap.size := hF; have h2 : i = b1 := hS; omega)
  replace hR1 := hR1.kp hk47 (fun i _ hF hS => by have h1 : i < w.heap.size := hF; have h2 : i = b1 := hS; omega)
  replace hR := hR.kp hk47 (fun i _ hF hS => by have h1 : i < w.heap.size := hF; have h2 : i = b1 := hS; omega)
  replace hB6 := hB49
  refine rl_nil ?_
  refine k_tn ?_
  refine cw_norm [(2, .pointer (some ⟨b1, 0, none⟩)), (3, .pointer (some ⟨b7, 0, none⟩)), (4, .pointer (some ⟨b13, 0, none⟩)), (6, .int .u64 ((jload crcOf ⟨s0, s1, la, wa, wr⟩).2 + 1))] ⟨rfl, rfl, rfl, rfl, trivial⟩ (fun ρn50 => ?_)
  have hl_b1_d1 := hB6.lt
  have hl_b7_d1 := hB12.lt
  have hl_b13_d1 := hB18.lt
  have hl_b24_d1 := hB29.lt
  refine cw_norm [(2, .pointer (some ⟨b1, 0, none⟩)), (3, .pointer (some ⟨b7, 0, none⟩)), (4, .pointer (some ⟨b13, 0, none⟩)), (6, .int .u64 ((jload crcOf ⟨s0, s1, la, wa, wr⟩).2 + 1))] ⟨rfl, rfl, rfl, rfl, trivial⟩ (fun ρr55 => ?_)
  refine cw_drawn [.val (.pointer (some ⟨b1, 2, none⟩)), .val (.int .i64 (0)), .val (.agg #[.int .i64 (b), .int .i64 (m), .int .i64 (c), .slice ao ps.length cp]), .val (.int .u64 ((jload crcOf ⟨s0, s1, la, wa, wr⟩).2 + 1)), .fact (fun v w' => ∃ (ao3 : Option Addr) (c3 : Nat), v = .slice ao3 ((jput crcOf ⟨b, m, c, ps⟩ ((jload crcOf ⟨s0, s1, la, wa, wr⟩).2 + 1)).length) c3 ∧ (Rd (fun b => w46.heap.size ≤ b) w' 1 (.slice ao3 (jput crcOf ⟨b, m, c, ps⟩ ((jload crcOf ⟨s0, s1, la, wa, wr⟩).2 + 1)).length c3) ((jput crcOf ⟨b, m, c, ps⟩ ((jload crcOf ⟨s0, s1, la, wa, wr⟩).2 + 1)).map encB))), .val (.pointer (some ⟨b1, 0, none⟩))] [[], [0], [], [], [2, 3], [], [0, 1, 2, 3, 4, 5], [0, 1, 2, 3, 4, 5, 6]] 6 mixed (by kernel_rfl) ⟨trivial, trivial, trivial, trivial, (fun v w w' ⟨ao3, c3, hv, hP⟩ hk => ⟨ao3, c3, hv, hP.ext hk⟩), trivial, trivial⟩ ⟨⟨⟨⟨⟨⟨trivial, ?_⟩, ?_⟩, ?_⟩, ?_⟩, ?_⟩, ?_⟩ (fun w56 vs57 hE58 hkn59 => ?_)
  · refine obl_mk rfl (fun w56k vs hE hkn => ?_)
    replace hK := hK.trans (Kp.ext hE)
    replace hB6 := hB6.ext hE
    replace hB12 := hB12.ext hE
    replace hB18 := hB18.ext hE
    replace hB29 := hB29.ext hE
    replace hT := hT.ext hE
    replace hR0 := hR0.ext hE
    replace hR1 := hR1.ext hE
    replace hR := hR.ext hE
    refine obl_t rfl ?_
    refine opk_norm [(2, .pointer (some ⟨b1, 0, none⟩))] ⟨rfl, trivial⟩ (fun ρq => ?_)
    refine o_field rfl fa27_1 ?_
    exact ⟨Kp.refl _ _, rfl⟩
  · refine obl_mk rfl (fun w56k vs hE hkn => ?_)
    replace hK := hK.trans (Kp.ext hE)
    replace hB6 := hB6.ext hE
    replace hB12 := hB12.ext hE
    replace hB18 := hB18.ext hE
    replace hB29 := hB29.ext hE
    replace hT := hT.ext hE
    replace hR0 := hR0.ext hE
    replace hR1 := hR1.ext hE
    replace hR := hR.ext hE
    refine obl_t rfl ?_
    refine opk_norm [(27, .pointer (some ⟨b1, 2, none⟩))] ⟨rfl, trivial⟩ (fun ρq => ?_)
    refine o_loadB (v := .int .i64 (0)) rfl hB6 tyS3 rfl ?_
    exact ⟨Kp.refl _ _, rfl⟩
  · refine obl_mk rfl (fun w56k vs hE hkn => ?_)
    replace hK := hK.trans (Kp.ext hE)
    replace hB6 := hB6.ext hE
    replace hB12 := hB12.ext hE
    replace hB18 := hB18.ext hE
    replace hB29 := hB29.ext hE
    replace hT := hT.ext hE
    replace hR0 := hR0.ext hE
    replace hR1 := hR1.ext hE
    replace hR := hR.ext hE
    refine obl_t rfl ?_
    refine opk_norm [(3, .pointer (some ⟨b7, 0, none⟩))] ⟨rfl, trivial⟩ (fun ρq => ?_)
    refine o_loadBA (ds := [.int .i64 (b), .int .i64 (m), .int .i64 (c), .slice ao ps.length cp]) rfl hB12 tyA32 rfl rfl ?_
    exact ⟨Kp.refl _ _, rfl⟩
  · refine obl_mk rfl (fun w56k vs hE hkn => ?_)
    replace hK := hK.trans (Kp.ext hE)
    replace hB6 := hB6.ext hE
    replace hB12 := hB12.ext hE
    replace hB18 := hB18.ext hE
    replace hB29 := hB29.ext hE
    replace hT := hT.ext hE
    replace hR0 := hR0.ext hE
    replace hR1 := hR1.ext hE
    replace hR := hR.ext hE
    refine obl_t rfl ?_
    refine opk_norm [(6, .int .u64 ((jload crcOf ⟨s0, s1, la, wa, wr⟩).2 + 1))] ⟨rfl, trivial⟩ (fun ρq => ?_)
    refine o_move (v := .int .u64 ((jload crcOf ⟨s0, s1, la, wa, wr⟩).2 + 1)) rfl ?_
    exact ⟨Kp.refl _ _, rfl⟩
  · refine obl_mk rfl (fun w56k vs hE hkn => ?_)
    replace hK := hK.trans (Kp.ext hE)
    replace hB6 := hB6.ext hE
    replace hB12 := hB12.ext hE
    replace hB18 := hB18.ext hE
    replace hB29 := hB29.ext hE
    replace hT := hT.ext hE
    replace hR0 := hR0.ext hE
    replace hR1 := hR1.ext hE
    replace hR := hR.ext hE
    refine obl_t rfl ?_
    refine opk_norm [(29, .agg #[.int .i64 (b), .int .i64 (m), .int .i64 (c), .slice ao ps.length cp]), (30, .int .u64 ((jload crcOf ⟨s0, s1, la, wa, wr⟩).2 + 1))] ⟨rfl, rfl, trivial⟩ (fun ρq => ?_)
    refine o_call (jput_ok b m c ao cp ps ((jload crcOf ⟨s0, s1, la, wa, wr⟩).2 + 1) _ _ rfl hn hp hb hm ⟨by omega, by omega⟩ hT hR) Tryd.call15 (fun v60 w61 hk62 hv63 => ?_)
    have hl_b1_w61 := hB6.lt
    have hl_b7_w61 := hB12.lt
    have hl_b13_w61 := hB18.lt
    have hl_b24_w61 := hB29.lt
    have hs_w61 := hK.size
    obtain ⟨n3, ao3, c3, rfl, hn3, hO3⟩ := hv63
    replace hK := hK.trans (Kp.ext hk62)
    replace hB6 := hB6.ext hk62
    replace hB12 := hB12.ext hk62
    replace hB18 := hB18.ext hk62
    replace hB29 := hB29.ext hk62
    replace hT := hT.ext hk62
    replace hR0 := hR0.ext hk62
    replace hR1 := hR1.ext hk62
    replace hR := hR.ext hk62
    subst hn3
    have hP := (Rd.of_ownF hO3 (fun _ => rfl) rfl).mono (G := fun b => w46.heap.size ≤ b) (fun b _ h => Nat.le_trans hE.size h)
    clear hO3
    exact ⟨hk62, ao3, c3, rfl, hP⟩
  · refine obl_mk rfl (fun w56k vs hE hkn => ?_)
    replace hK := hK.trans (Kp.ext hE)
    replace hB6 := hB6.ext hE
    replace hB12 := hB12.ext hE
    replace hB18 := hB18.ext hE
    replace hB29 := hB29.ext hE
    replace hT := hT.ext hE
    replace hR0 := hR0.ext hE
    replace hR1 := hR1.ext hE
    replace hR := hR.ext hE
    refine obl_t rfl ?_
    refine opk_norm [(2, .pointer (some ⟨b1, 0, none⟩))] ⟨rfl, trivial⟩ (fun ρq => ?_)
    refine o_field rfl fa27_0 ?_
    exact ⟨Kp.refl _ _, rfl⟩
  replace hK := hK.trans (Kp.ext hE58)
  replace hB6 := hB6.ext hE58
  replace hB12 := hB12.ext hE58
  replace hB18 := hB18.ext hE58
  replace hB29 := hB29.ext hE58
  replace hT := hT.ext hE58
  replace hR0 := hR0.ext hE58
  replace hR1 := hR1.ext hE58
  replace hR := hR.ext hE58
  obtain ⟨-, ⟨ao3, c3, hv4, hP⟩, -, -, -, -, -⟩ := hkn59
  refine rl_norm [(2, .pointer (some ⟨b1, 0, none⟩)), (4, .pointer (some ⟨b13, 0, none⟩)), (28, .int .i64 (0)), (31, .slice ao3 ((jput crcOf ⟨b, m, c, ps⟩ ((jload crcOf ⟨s0, s1, la, wa, wr⟩).2 + 1)).length) c3), (32, .pointer (some ⟨b1, 0, none⟩))] ⟨rfl, rfl, rfl, hv4, rfl, trivial⟩ (fun ρr55q => ?_)
  refine rl (o_idxArr (i := 0) rfl rfl Tryd.underlying25 Tryd.sizeOf24 (by omega) (by omega) ?_) rfl
  refine rl0 (o_store1 (v := .slice ao3 ((jput crcOf ⟨b, m, c, ps⟩ ((jload crcOf ⟨s0, s1, la, wa, wr⟩).2 + 1)).length) c3) rfl rfl hB6 tyS24 rfl (Nat.le_of_ble_eq_true rfl) (fun w64 hk65 hz66 hB67 => ?_)) rfl
  replace hB67 : Box w64 b1 [.slice ao3 ((jput crcOf ⟨b, m, c, ps⟩ ((jload crcOf ⟨s0, s1, la, wa, wr⟩).2 + 1)).length) c3, .slice a1 s1.length p1, .int .i64 (0), .slice a0 s0.length p0, .bool (true)] 27 := hB67
  replace hK := hK.later hk65 (fun i hi hS => by have h1 : i = b1 := hS; omega)
  replace hB12 := hB12.kp hk65 (by show ¬ b7 = b1; omega)
  replace hB18 := hB18.kp hk65 (by show ¬ b13 = b1; omega)
  replace hB29 := hB29.kp hk65 (by show ¬ b24 = b1; omega)
  replace hT := hT.kp hk65 (fun h => by have h2 : (0 : Nat) = b1 := h; omega)
  replace hR0 := hR0.kp hk65 (fun i _ hF hS => by have h1 : i < w.heap.size := hF; have h2 : i = b1 := hS; omega)
  replace hR1 := hR1.kp hk65 (fun i _ hF hS => by have h1 : i < w.heap.size := hF; have h2 : i = b1 := hS; omega)
  replace hR := hR.kp hk65 (fun i _ hF hS => by have h1 : i < w.heap.size := hF; have h2 : i = b1 := hS; omega)
  replace hP := hP.kp hk65 (fun i _ hF hS => by have h1 : w46.heap.size ≤ i := hF; have h2 : i = b1 := hS; omega)
  replace hB6 := hB67
  refine rl_nil ?_
  refine cw_reg rfl ?_
  refine rl (o_loadBA (ds := [.slice ao3 ((jput crcOf ⟨b, m, c, ps⟩ ((jload crcOf ⟨s0, s1, la, wa, wr⟩).2 + 1)).length) c3, .slice a1 s1.length p1, .int .i64 (0), .slice a0 s0.length p0, .bool (true)]) rfl hB6 tyA27 rfl rfl ?_) rfl
  refine rl0 (o_storeA (vs := [.slice ao3 ((jput crcOf ⟨b, m, c, ps⟩ ((jload crcOf ⟨s0, s1, la, wa, wr⟩).2 + 1)).length) c3, .slice a1 s1.length p1, .int .i64 (0), .slice a0 s0.length p0, .bool (true)]) rfl rfl hB18 tyA27 rfl rfl (Nat.le_of_ble_eq_true rfl) (fun w68 hk69 hz70 hB71 => ?_)) rfl
  replace hB71 : Box w68 b13 [.slice ao3 ((jput crcOf ⟨b, m, c, ps⟩ ((jload crcOf ⟨s0, s1, la, wa, wr⟩).2 + 1)).length) c3, .slice a1 s1.length p1, .int .i64 (0), .slice a0 s0.length p0, .bool (true)] 27 := hB71
  replace hK := hK.later hk69 (fun i hi hS => by have h1 : i = b13 := hS; omega)
  replace hB6 := hB6.kp hk69 (by show ¬ b1 = b13; omega)
  replace hB12 := hB12.kp hk69 (by show ¬ b7 = b13; omega)
  replace hB29 := hB29.kp hk69 (by show ¬ b24 = b13; omega)
  replace hT := hT.kp hk69 (fun h => by have h2 : (0 : Nat) = b13 := h; omega)
  replace hR0 := hR0.kp hk69 (fun i _ hF hS => by have h1 : i < w.heap.size := hF; have h2 : i = b13 := hS; omega)
  replace hR1 := hR1.kp hk69 (fun i _ hF hS => by have h1 : i < w.heap.size := hF; have h2 : i = b13 := hS; omega)
  replace hR := hR.kp hk69 (fun i _ hF hS => by have h1 : i < w.heap.size := hF; have h2 : i = b13 := hS; omega)
  replace hP := hP.kp hk69 (fun i _ hF hS => by have h1 : w46.heap.size ≤ i := hF; have h2 : i = b13 := hS; omega)
  replace hB18 := hB71
  refine rl_nil ?_
  refine cw_ret ?_
  refine ret_intro (v := .agg #[.slice ao3 ((jput crcOf ⟨b, m, c, ps⟩ ((jload crcOf ⟨s0, s1, la, wa, wr⟩).2 + 1)).length) c3, .slice a1 s1.length p1, .int .i64 (0), .slice a0 s0.length p0, .bool (true)]) (res_ok (vs := [.agg #[.slice ao3 ((jput crcOf ⟨b, m, c, ps⟩ ((jload crcOf ⟨s0, s1, la, wa, wr⟩).2 + 1)).length) c3, .slice a1 s1.length p1, .int .i64 (0), .slice a0 s0.length p0, .bool (true)]]) rfl ⟨⟨_, rfl, run_loadA tyA27 rfl (hB18.at_ 0 5)⟩, trivial⟩) hK ?_
  exact ⟨ao3, c3, rfl, hP.mono (fun b _ h => by have h1 : w46.heap.size ≤ b := h; omega)⟩

set_option maxHeartbeats 8000000 in
theorem write1_ok {F0 F1 Fw : Nat → Prop} (a0 a1 aw : Option Addr) (p0 p1 pw : Nat) (s0 s1 wa : List Int) (la : Int) (wr : Bool) {F : Nat → Prop} (b m c : Int) (ao : Option Addr) (cp : Nat) (ps : List Permit) (n0 : Nat) (n1 : Nat) (nw : Nat) (n4 : Nat) (w : World) (hl_n4 : n4 = ps.length) (hl_nw : nw = wa.length) (hl_n1 : n1 = s1.length) (hl_n0 : n0 = s0.length) (hn0 : n0 ≤ 1000000) (hn1 : n1 ≤ 1000000) (hB0 : isB s0) (hB1 : isB s1) (hsq : 0 ≤ (jload crcOf ⟨s0, s1, la, wa, wr⟩).2 ∧ (jload crcOf ⟨s0, s1, la, wa, wr⟩).2 ≤ 1000000) (hpar : ((jload crcOf ⟨s0, s1, la, wa, wr⟩).2 + 1) % 2 = 1) (hn : n4 ≤ 1000) (hp : ∀ p ∈ ps, 0 ≤ p.car ∧ p.car < 4294967296 ∧ 0 ≤ p.peak ∧ p.peak < 4294967296) (hb : 0 ≤ b ∧ b < 4294967296) (hm : 0 ≤ m ∧ m < 4294967296) (hT : Tab w) (hR0 : Rd F0 w 1 (.slice a0 n0 p0) (s0.map encB)) (hR1 : Rd F1 w 1 (.slice a1 n1 p1) (s1.map encB)) (hR : Rd F w 2 (.slice ao n4 cp) (ps.map encP)) :
    Calls Tryd.prog 11 #[.agg #[.slice a0 n0 p0, .slice a1 n1 p1, .int .i64 (la), .slice aw nw pw, .bool (wr)], .agg #[.int .i64 (b), .int .i64 (m), .int .i64 (c), .slice ao n4 cp]] w (Ret Non w fun v w' => ∃ (ao3 : Option Addr) (c3 : Nat), v = .agg #[.slice a0 s0.length p0, .slice ao3 ((jput crcOf ⟨b, m, c, ps⟩ ((jload crcOf ⟨s0, s1, la, wa, wr⟩).2 + 1)).length) c3, .int .i64 (1), .slice a1 s1.length p1, .bool (true)] ∧ Rd (fun b => w.heap.size ≤ b) w' 1 (.slice ao3 ((jput crcOf ⟨b, m, c, ps⟩ ((jload crcOf ⟨s0, s1, la, wa, wr⟩).2 + 1)).length) c3) ((jput crcOf ⟨b, m, c, ps⟩ ((jload crcOf ⟨s0, s1, la, wa, wr⟩).2 + 1)).map encB)) := by
  have hK := Kp.refl Non w
  subst hl_n0
  subst hl_n1
  subst hl_nw
  subst hl_n4
  replace hR0 := hR0.old
  replace hR1 := hR1.old
  replace hR := hR.old
  have h00 := hT.1
  refine calls_cw Tryd.func11 rfl (Nat.le_of_ble_eq_true rfl) ?_
  refine cw_seq ?_
  refine cw_region rfl ?_
  refine rl (o_box (v := .agg #[.slice a0 s0.length p0, .slice a1 s1.length p1, .int .i64 (la), .slice aw wa.length pw, .bool (wr)]) rfl (fun b1 w2 hb3 hz4 hk5 hB6 => ?_)) rfl
  replace hB6 : Box w2 b1 [.slice a0 s0.length p0, .slice a1 s1.length p1, .int .i64 (la), .slice aw wa.length pw, .bool (wr)] 27 := hB6
  have hs_b1 := hK.size
  replace hK := hK.trans (Kp.ext hk5)
  replace hT := hT.ext hk5
  replace hR0 := hR0.ext hk5
  replace hR1 := hR1.ext hk5
  replace hR := hR.ext hk5
  refine rl (o_box (v := .agg #[.int .i64 (b), .int .i64 (m), .int .i64 (c), .slice ao ps.length cp]) rfl (fun b7 w8 hb9 hz10 hk11 hB12 => ?_)) rfl
  replace hB12 : Box w8 b7 [.int .i64 (b), .int .i64 (m), .int .i64 (c), .slice ao ps.length cp] 32 := hB12
  have hs_b7 := hK.size
  have hl_b1_b7 := hB6.lt
  replace hK := hK.trans (Kp.ext hk11)
  replace hB6 := hB6.ext hk11
  replace hT := hT.ext hk11
  replace hR0 := hR0.ext hk11
  replace hR1 := hR1.ext hk11
  replace hR := hR.ext hk11
  refine rl (o_alloc Tryd.zeroValue27 (fun b13 w14 hb15 hz16 hk17 hB18 => ?_)) rfl
  replace hB18 : Box w14 b13 [.slice none 0 0, .slice none 0 0, .int .i64 (0), .slice none 0 0, .bool (false)] 27 := hB18
  have hs_b13 := hK.size
  have hl_b1_b13 := hB6.lt
  have hl_b7_b13 := hB12.lt
  replace hK := hK.trans (Kp.ext hk17)
  replace hB6 := hB6.ext hk17
  replace hB12 := hB12.ext hk17
  replace hT := hT.ext hk17
  replace hR0 := hR0.ext hk17
  replace hR1 := hR1.ext hk17
  replace hR := hR.ext hk17
  refine rl_nil ?_
  refine k_tn ?_
  refine cw_norm [(2, .pointer (some ⟨b1, 0, none⟩)), (3, .pointer (some ⟨b7, 0, none⟩)), (4, .pointer (some ⟨b13, 0, none⟩))] ⟨rfl, rfl, rfl, trivial⟩ (fun ρn19 => ?_)
  refine cw_seq ?_
  refine cw_region rfl ?_
  refine rl (o_loadBA (ds := [.slice a0 s0.length p0, .slice a1 s1.length p1, .int .i64 (la), .slice aw wa.length pw, .bool (wr)]) rfl hB6 tyA27 rfl rfl ?_) rfl
  refine rl (o_call (jload_ok (Fw := Fw) a0 a1 aw p0 p1 pw s0 s1 wa la wr _ _ _ _ rfl rfl rfl hn0 hn1 hB0 hB1 hT hR0 hR1) Tryd.call12 (fun v20 w21 hk22 hv23 => ?_)) rfl
  have hl_b1_w21 := hB6.lt
  have hl_b7_w21 := hB12.lt
  have hl_b13_w21 := hB18.lt
  have hs_w21 := hK.size
  obtain ⟨nL, aoL, cL, rfl, hnL, hL⟩ := hv23
  replace hK := hK.trans (Kp.ext hk22)
  replace hB6 := hB6.ext hk22
  replace hB12 := hB12.ext hk22
  replace hB18 := hB18.ext hk22
  replace hT := hT.ext hk22
  replace hR0 := hR0.ext hk22
  replace hR1 := hR1.ext hk22
  replace hR := hR.ext hk22
  refine rl (o_move (v := .tuple #[.agg #[.int .i64 ((jload crcOf ⟨s0, s1, la, wa, wr⟩).1.budget), .int .i64 ((jload crcOf ⟨s0, s1, la, wa, wr⟩).1.margin), .int .i64 ((jload crcOf ⟨s0, s1, la, wa, wr⟩).1.credit), .slice aoL nL cL], .int .u64 ((jload crcOf ⟨s0, s1, la, wa, wr⟩).2), .bool (decide (0 < (jload crcOf ⟨s0, s1, la, wa, wr⟩).2))]) rfl ?_) rfl
  refine rl (o_extract (vs := [.agg #[.int .i64 ((jload crcOf ⟨s0, s1, la, wa, wr⟩).1.budget), .int .i64 ((jload crcOf ⟨s0, s1, la, wa, wr⟩).1.margin), .int .i64 ((jload crcOf ⟨s0, s1, la, wa, wr⟩).1.credit), .slice aoL nL cL], .int .u64 ((jload crcOf ⟨s0, s1, la, wa, wr⟩).2), .bool (decide (0 < (jload crcOf ⟨s0, s1, la, wa, wr⟩).2))]) (v := .agg #[.int .i64 ((jload crcOf ⟨s0, s1, la, wa, wr⟩).1.budget), .int .i64 ((jload crcOf ⟨s0, s1, la, wa, wr⟩).1.margin), .int .i64 ((jload crcOf ⟨s0, s1, la, wa, wr⟩).1.credit), .slice aoL nL cL]) rfl rfl ?_) rfl
  refine rl (o_extract (vs := [.agg #[.int .i64 ((jload crcOf ⟨s0, s1, la, wa, wr⟩).1.budget), .int .i64 ((jload crcOf ⟨s0, s1, la, wa, wr⟩).1.margin), .int .i64 ((jload crcOf ⟨s0, s1, la, wa, wr⟩).1.credit), .slice aoL nL cL], .int .u64 ((jload crcOf ⟨s0, s1, la, wa, wr⟩).2), .bool (decide (0 < (jload crcOf ⟨s0, s1, la, wa, wr⟩).2))]) (v := .int .u64 ((jload crcOf ⟨s0, s1, la, wa, wr⟩).2)) rfl rfl ?_) rfl
  refine rl (o_extract (vs := [.agg #[.int .i64 ((jload crcOf ⟨s0, s1, la, wa, wr⟩).1.budget), .int .i64 ((jload crcOf ⟨s0, s1, la, wa, wr⟩).1.margin), .int .i64 ((jload crcOf ⟨s0, s1, la, wa, wr⟩).1.credit), .slice aoL nL cL], .int .u64 ((jload crcOf ⟨s0, s1, la, wa, wr⟩).2), .bool (decide (0 < (jload crcOf ⟨s0, s1, la, wa, wr⟩).2))]) (v := .bool (decide (0 < (jload crcOf ⟨s0, s1, la, wa, wr⟩).2))) rfl rfl ?_) rfl
  refine rl (o_alloc Tryd.zeroValue32 (fun b24 w25 hb26 hz27 hk28 hB29 => ?_)) rfl
  replace hB29 : Box w25 b24 [.int .i64 (0), .int .i64 (0), .int .i64 (0), .slice none 0 0] 32 := hB29
  have hs_b24 := hK.size
  have hl_b1_b24 := hB6.lt
  have hl_b7_b24 := hB12.lt
  have hl_b13_b24 := hB18.lt
  replace hK := hK.trans (Kp.ext hk28)
  replace hB6 := hB6.ext hk28
  replace hB12 := hB12.ext hk28
  replace hB18 := hB18.ext hk28
  replace hT := hT.ext hk28
  replace hR0 := hR0.ext hk28
  replace hR1 := hR1.ext hk28
  replace hR := hR.ext hk28
  refine rl0 (o_storeA (vs := [.int .i64 ((jload crcOf ⟨s0, s1, la, wa, wr⟩).1.budget), .int .i64 ((jload crcOf ⟨s0, s1, la, wa, wr⟩).1.margin), .int .i64 ((jload crcOf ⟨s0, s1, la, wa, wr⟩).1.credit), .slice aoL nL cL]) rfl rfl hB29 tyA32 rfl rfl (Nat.le_of_ble_eq_true rfl) (fun w30 hk31 hz32 hB33 => ?_)) rfl
  replace hB33 : Box w30 b24 [.int .i64 ((jload crcOf ⟨s0, s1, la, wa, wr⟩).1.budget), .int .i64 ((jload crcOf ⟨s0, s1, la, wa, wr⟩).1.margin), .int .i64 ((jload crcOf ⟨s0, s1, la, wa, wr⟩).1.credit), .slice aoL nL cL] 32 := hB33
  replace hK := hK.later hk31 (fun i hi hS => by have h1 : i = b24 := hS; omega)
  replace hB6 := hB6.kp hk31 (by show ¬ b1 = b24; omega)
  replace hB12 := hB12.kp hk31 (by show ¬ b7 = b24; omega)
  replace hB18 := hB18.kp hk31 (by show ¬ b13 = b24; omega)
  replace hT := hT.kp hk31 (fun h => by have h2 : (0 : Nat) = b24 := h; omega)
  replace hR0 := hR0.kp hk31 (fun i _ hF hS => by have h1 : i < w.heap.size := hF; have h2 : i = b24 := hS; omega)
  replace hR1 := hR1.kp hk31 (fun i _ hF hS => by have h1 : i < w.heap.size := hF; have h2 : i = b24 := hS; omega)
  replace hR := hR.kp hk31 (fun i _ hF hS => by have h1 : i < w.heap.size := hF; have h2 : i = b24 := hS; omega)
  replace hB29 := hB33
  refine rl (o_assign (v := .int .u64 ((jload crcOf ⟨s0, s1, la, wa, wr⟩).2)) rfl ?_) rfl
  refine rl (o_assign (v := .bool (decide (0 < (jload crcOf ⟨s0, s1, la, wa, wr⟩).2))) rfl ?_) rfl
  refine rl_nil ?_
  refine k_tn ?_
  refine cw_norm [(2, .pointer (some ⟨b1, 0, none⟩)), (3, .pointer (some ⟨b7, 0, none⟩)), (4, .pointer (some ⟨b13, 0, none⟩)), (6, .int .u64 ((jload crcOf ⟨s0, s1, la, wa, wr⟩).2))] ⟨rfl, rfl, rfl, rfl, trivial⟩ (fun ρn34 => ?_)
  refine cw_seq ?_
  refine cw_region rfl ?_
  refine rl (o_move (v := .int .u64 ((jload crcOf ⟨s0, s1, la, wa, wr⟩).2)) rfl ?_) rfl
  refine rl (o_addE rfl rfl (by omega) (by omega) ?_) rfl
  refine rl (o_assign (v := .int .u64 ((jload crcOf ⟨s0, s1, la, wa, wr⟩).2 + 1)) rfl ?_) rfl
  refine rl_nil ?_
  refine k_tn ?_
  refine cw_norm [(2, .pointer (some ⟨b1, 0, none⟩)), (3, .pointer (some ⟨b7, 0, none⟩)), (4, .pointer (some ⟨b13, 0, none⟩)), (6, .int .u64 ((jload crcOf ⟨s0, s1, la, wa, wr⟩).2 + 1))] ⟨rfl, rfl, rfl, rfl, trivial⟩ (fun ρn35 => ?_)
  refine cw_seq ?_
  refine cw_region rfl ?_
  refine rl (o_move (v := .int .u64 ((jload crcOf ⟨s0, s1, la, wa, wr⟩).2 + 1)) rfl ?_) rfl
  refine rl (o_remE 1 rfl rfl (by decide) (by omega) hpar ?_) rfl
  refine rl (o_convI (a := 1) rfl ⟨_, Tryd.underlying36⟩ Tryd.underlying3 (by show (-9223372036854775808 : Int) ≤ _; omega) (by show _ ≤ (9223372036854775807 : Int); omega) ?_) rfl
  refine rl (o_field rfl fa27_1 ?_) rfl
  refine rl0 (o_store1 (v := .int .i64 (1)) rfl rfl hB6 tyS3 rfl (Nat.le_of_ble_eq_true rfl) (fun w36 hk37 hz38 hB39 => ?_)) rfl
  replace hB39 : Box w36 b1 [.slice a0 s0.length p0, .slice a1 s1.length p1, .int .i64 (1), .slice aw wa.length pw, .bool (wr)] 27 := hB39
  replace hK := hK.later hk37 (fun i hi hS => by have h1 : i = b1 := hS; omega)
  replace hB12 := hB12.kp hk37 (by show ¬ b7 = b1; omega)
  replace hB18 := hB18.kp hk37 (by show ¬ b13 = b1; omega)
  replace hB29 := hB29.kp hk37 (by show ¬ b24 = b1; omega)
  replace hT := hT.kp hk37 (fun h => by have h2 : (0 : Nat) = b1 := h; omega)
  replace hR0 := hR0.kp hk37 (fun i _ hF hS => by have h1 : i < w.heap.size := hF; have h2 : i = b1 := hS; omega)
  replace hR1 := hR1.kp hk37 (fun i _ hF hS => by have h1 : i < w.heap.size := hF; have h2 : i = b1 := hS; omega)
  replace hR := hR.kp hk37 (fun i _ hF hS => by have h1 : i < w.heap.size := hF; have h2 : i = b1 := hS; omega)
  replace hB6 := hB39
  refine rl_nil ?_
  refine k_tn ?_
  refine cw_norm [(2, .pointer (some ⟨b1, 0, none⟩)), (3, .pointer (some ⟨b7, 0, none⟩)), (4, .pointer (some ⟨b13, 0, none⟩)), (6, .int .u64 ((jload crcOf ⟨s0, s1, la, wa, wr⟩).2 + 1))] ⟨rfl, rfl, rfl, rfl, trivial⟩ (fun ρn40 => ?_)
  refine cw_seq ?_
  refine cw_region rfl ?_
  refine rl (o_field rfl fa27_1 ?_) rfl
  refine rl (o_loadB (v := .int .i64 (1)) rfl hB6 tyS3 rfl ?_) rfl
  refine rl (o_field rfl fa27_0 ?_) rfl
  refine rl (o_idxArr (i := 1) rfl rfl Tryd.underlying25 Tryd.sizeOf24 (by omega) (by omega) ?_) rfl
  refine rl (o_loadB (v := .slice a1 s1.length p1) rfl hB6 tyS24 rfl ?_) rfl
  refine rl (o_field rfl fa27_2 ?_) rfl
  refine rl0 (o_store1 (v := .slice a1 s1.length p1) rfl rfl hB6 tyS24 rfl (Nat.le_of_ble_eq_true rfl) (fun w41 hk42 hz43 hB44 => ?_)) rfl
  replace hB44 : Box w41 b1 [.slice a0 s0.length p0, .slice a1 s1.length p1, .int .i64 (1), .slice a1 s1.length p1, .bool (wr)] 27 := hB44
  replace hK := hK.later hk42 (fun i hi hS => by have h1 : i = b1 := hS; omega)
  replace hB12 := hB12.kp hk42 (by show ¬ b7 = b1; omega)
  replace hB18 := hB18.kp hk42 (by show ¬ b13 = b1; omega)
  replace hB29 := hB29.kp hk42 (by show ¬ b24 = b1; omega)
  replace hT := hT.kp hk42 (fun h => by have h2 : (0 : Nat) = b1 := h; omega)
  replace hR0 := hR0.kp hk42 (fun i _ hF hS => by have h1 : i < w.heap.size := hF; have h2 : i = b1 := hS; omega)
  replace hR1 := hR1.kp hk42 (fun i _ hF hS => by have h1 : i < w.heap.size := hF; have h2 : i = b1 := hS; omega)
  replace hR := hR.kp hk42 (fun i _ hF hS => by have h1 : i < w.heap.size := hF; have h2 : i = b1 := hS; omega)
  replace hB6 := hB44
  refine rl_nil ?_
  refine k_tn ?_
  refine cw_norm [(2, .pointer (some ⟨b1, 0, none⟩)), (3, .pointer (some ⟨b7, 0, none⟩)), (4, .pointer (some ⟨b13, 0, none⟩)), (6, .int .u64 ((jload crcOf ⟨s0, s1, la, wa, wr⟩).2 + 1))] ⟨rfl, rfl, rfl, rfl, trivial⟩ (fun ρn45 => ?_)
  refine cw_seq ?_
  refine cw_region rfl ?_
  refine rl (o_field rfl fa27_3 ?_) rfl
  refine rl0 (o_store1 (v := .bool (true)) rfl rfl hB6 tyS4 rfl (Nat.le_of_ble_eq_true rfl) (fun w46 hk47 hz48 hB49 => ?_)) rfl
  replace hB49 : Box w46 b1 [.slice a0 s0.length p0, .slice a1 s1.length p1, .int .i64 (1), .slice a1 s1.length p1, .bool (true)] 27 := hB49
  replace hK := hK.later hk47 (fun i hi hS => by have h1 : i = b1 := hS; omega)
  replace hB12 := hB12.kp hk47 (by show ¬ b7 = b1; omega)
  replace hB18 := hB18.kp hk47 (by show ¬ b13 = b1; omega)
  replace hB29 := hB29.kp hk47 (by show ¬ b24 = b1; omega)
  replace hT := hT.kp hk47 (fun h => by have h2 : (0 : Nat) = b1 := h; omega)
  replace hR0 := hR0.kp hk47 (fun i _ hF hS => by have h1 : i < w.heap.size := hF; have h2 : i = b1 := hS; omega)
  replace hR1 := hR1.kp hk47 (fun i _ hF hS => by have h1 : i < w.heap.size := hF; have h2 : i = b1 := hS; omega)
  replace hR := hR.kp hk47 (fun i _ hF hS => by have h1 : i < w.heap.size := hF; have h2 : i = b1 := hS; omega)
  replace hB6 := hB49
  refine rl_nil ?_
  refine k_tn ?_
  refine cw_norm [(2, .pointer (some ⟨b1, 0, none⟩)), (3, .pointer (some ⟨b7, 0, none⟩)), (4, .pointer (some ⟨b13, 0, none⟩)), (6, .int .u64 ((jload crcOf ⟨s0, s1, la, wa, wr⟩).2 + 1))] ⟨rfl, rfl, rfl, rfl, trivial⟩ (fun ρn50 => ?_)
  have hl_b1_d2 := hB6.lt
  have hl_b7_d2 := hB12.lt
  have hl_b13_d2 := hB18.lt
  have hl_b24_d2 := hB29.lt
  refine cw_norm [(2, .pointer (some ⟨b1, 0, none⟩)), (3, .pointer (some ⟨b7, 0, none⟩)), (4, .pointer (some ⟨b13, 0, none⟩)), (6, .int .u64 ((jload crcOf ⟨s0, s1, la, wa, wr⟩).2 + 1))] ⟨rfl, rfl, rfl, rfl, trivial⟩ (fun ρr55 => ?_)
  refine cw_drawn [.val (.pointer (some ⟨b1, 2, none⟩)), .val (.int .i64 (1)), .val (.agg #[.int .i64 (b), .int .i64 (m), .int .i64 (c), .slice ao ps.length cp]), .val (.int .u64 ((jload crcOf ⟨s0, s1, la, wa, wr⟩).2 + 1)), .fact (fun v w' => ∃ (ao3 : Option Addr) (c3 : Nat), v = .slice ao3 ((jput crcOf ⟨b, m, c, ps⟩ ((jload crcOf ⟨s0, s1, la, wa, wr⟩).2 + 1)).length) c3 ∧ (Rd (fun b => w46.heap.size ≤ b) w' 1 (.slice ao3 (jput crcOf ⟨b, m, c, ps⟩ ((jload crcOf ⟨s0, s1, la, wa, wr⟩).2 + 1)).length c3) ((jput crcOf ⟨b, m, c, ps⟩ ((jload crcOf ⟨s0, s1, la, wa, wr⟩).2 + 1)).map encB))), .val (.pointer (some ⟨b1, 0, none⟩))] [[], [0], [], [], [2, 3], [], [0, 1, 2, 3, 4, 5], [0, 1, 2, 3, 4, 5, 6]] 6 mixed (by kernel_rfl) ⟨trivial, trivial, trivial, trivial, (fun v w w' ⟨ao3, c3, hv, hP⟩ hk => ⟨ao3, c3, hv, hP.ext hk⟩), trivial, trivial⟩ ⟨⟨⟨⟨⟨⟨trivial, ?_⟩, ?_⟩, ?_⟩, ?_⟩, ?_⟩, ?_⟩ (fun w56 vs57 hE58 hkn59 => ?_)
  · refine obl_mk rfl (fun w56k vs hE hkn => ?_)
    replace hK := hK.trans (Kp.ext hE)
    replace hB6 := hB6.ext hE
    replace hB12 := hB12.ext hE
    replace hB18 := hB18.ext hE
    replace hB29 := hB29.ext hE
    replace hT := hT.ext hE
    replace hR0 := hR0.ext hE
    replace hR1 := hR1.ext hE
    replace hR := hR.ext hE
    refine obl_t rfl ?_
    refine opk_norm [(2, .pointer (some ⟨b1, 0, none⟩))] ⟨rfl, trivial⟩ (fun ρq => ?_)
    refine o_field rfl fa27_1 ?_
    exact ⟨Kp.refl _ _, rfl⟩
  · refine obl_mk rfl (fun w56k vs hE hkn => ?_)
    replace hK := hK.trans (Kp.ext hE)
    replace hB6 := hB6.ext hE
    replace hB12 := hB12.ext hE
    replace hB18 := hB18.ext hE
    replace hB29 := hB29.ext hE
    replace hT := hT.ext hE
    replace hR0 := hR0.ext hE
    replace hR1 := hR1.ext hE
    replace hR := hR.ext hE
    refine obl_t rfl ?_
    refine opk_norm [(27, .pointer (some ⟨b1, 2, none⟩))] ⟨rfl, trivial⟩ (fun ρq => ?_)
    refine o_loadB (v := .int .i64 (1)) rfl hB6 tyS3 rfl ?_
    exact ⟨Kp.refl _ _, rfl⟩
  · refine obl_mk rfl (fun w56k vs hE hkn => ?_)
    replace hK := hK.trans (Kp.ext hE)
    replace hB6 := hB6.ext hE
    replace hB12 := hB12.ext hE
    replace hB18 := hB18.ext hE
    replace hB29 := hB29.ext hE
    replace hT := hT.ext hE
    replace hR0 := hR0.ext hE
    replace hR1 := hR1.ext hE
    replace hR := hR.ext hE
    refine obl_t rfl ?_
    refine opk_norm [(3, .pointer (some ⟨b7, 0, none⟩))] ⟨rfl, trivial⟩ (fun ρq => ?_)
    refine o_loadBA (ds := [.int .i64 (b), .int .i64 (m), .int .i64 (c), .slice ao ps.length cp]) rfl hB12 tyA32 rfl rfl ?_
    exact ⟨Kp.refl _ _, rfl⟩
  · refine obl_mk rfl (fun w56k vs hE hkn => ?_)
    replace hK := hK.trans (Kp.ext hE)
    replace hB6 := hB6.ext hE
    replace hB12 := hB12.ext hE
    replace hB18 := hB18.ext hE
    replace hB29 := hB29.ext hE
    replace hT := hT.ext hE
    replace hR0 := hR0.ext hE
    replace hR1 := hR1.ext hE
    replace hR := hR.ext hE
    refine obl_t rfl ?_
    refine opk_norm [(6, .int .u64 ((jload crcOf ⟨s0, s1, la, wa, wr⟩).2 + 1))] ⟨rfl, trivial⟩ (fun ρq => ?_)
    refine o_move (v := .int .u64 ((jload crcOf ⟨s0, s1, la, wa, wr⟩).2 + 1)) rfl ?_
    exact ⟨Kp.refl _ _, rfl⟩
  · refine obl_mk rfl (fun w56k vs hE hkn => ?_)
    replace hK := hK.trans (Kp.ext hE)
    replace hB6 := hB6.ext hE
    replace hB12 := hB12.ext hE
    replace hB18 := hB18.ext hE
    replace hB29 := hB29.ext hE
    replace hT := hT.ext hE
    replace hR0 := hR0.ext hE
    replace hR1 := hR1.ext hE
    replace hR := hR.ext hE
    refine obl_t rfl ?_
    refine opk_norm [(29, .agg #[.int .i64 (b), .int .i64 (m), .int .i64 (c), .slice ao ps.length cp]), (30, .int .u64 ((jload crcOf ⟨s0, s1, la, wa, wr⟩).2 + 1))] ⟨rfl, rfl, trivial⟩ (fun ρq => ?_)
    refine o_call (jput_ok b m c ao cp ps ((jload crcOf ⟨s0, s1, la, wa, wr⟩).2 + 1) _ _ rfl hn hp hb hm ⟨by omega, by omega⟩ hT hR) Tryd.call15 (fun v60 w61 hk62 hv63 => ?_)
    have hl_b1_w61 := hB6.lt
    have hl_b7_w61 := hB12.lt
    have hl_b13_w61 := hB18.lt
    have hl_b24_w61 := hB29.lt
    have hs_w61 := hK.size
    obtain ⟨n3, ao3, c3, rfl, hn3, hO3⟩ := hv63
    replace hK := hK.trans (Kp.ext hk62)
    replace hB6 := hB6.ext hk62
    replace hB12 := hB12.ext hk62
    replace hB18 := hB18.ext hk62
    replace hB29 := hB29.ext hk62
    replace hT := hT.ext hk62
    replace hR0 := hR0.ext hk62
    replace hR1 := hR1.ext hk62
    replace hR := hR.ext hk62
    subst hn3
    have hP := (Rd.of_ownF hO3 (fun _ => rfl) rfl).mono (G := fun b => w46.heap.size ≤ b) (fun b _ h => Nat.le_trans hE.size h)
    clear hO3
    exact ⟨hk62, ao3, c3, rfl, hP⟩
  · refine obl_mk rfl (fun w56k vs hE hkn => ?_)
    replace hK := hK.trans (Kp.ext hE)
    replace hB6 := hB6.ext hE
    replace hB12 := hB12.ext hE
    replace hB18 := hB18.ext hE
    replace hB29 := hB29.ext hE
    replace hT := hT.ext hE
    replace hR0 := hR0.ext hE
    replace hR1 := hR1.ext hE
    replace hR := hR.ext hE
    refine obl_t rfl ?_
    refine opk_norm [(2, .pointer (some ⟨b1, 0, none⟩))] ⟨rfl, trivial⟩ (fun ρq => ?_)
    refine o_field rfl fa27_0 ?_
    exact ⟨Kp.refl _ _, rfl⟩
  replace hK := hK.trans (Kp.ext hE58)
  replace hB6 := hB6.ext hE58
  replace hB12 := hB12.ext hE58
  replace hB18 := hB18.ext hE58
  replace hB29 := hB29.ext hE58
  replace hT := hT.ext hE58
  replace hR0 := hR0.ext hE58
  replace hR1 := hR1.ext hE58
  replace hR := hR.ext hE58
  obtain ⟨-, ⟨ao3, c3, hv4, hP⟩, -, -, -, -, -⟩ := hkn59
  refine rl_norm [(2, .pointer (some ⟨b1, 0, none⟩)), (4, .pointer (some ⟨b13, 0, none⟩)), (28, .int .i64 (1)), (31, .slice ao3 ((jput crcOf ⟨b, m, c, ps⟩ ((jload crcOf ⟨s0, s1, la, wa, wr⟩).2 + 1)).length) c3), (32, .pointer (some ⟨b1, 0, none⟩))] ⟨rfl, rfl, rfl, hv4, rfl, trivial⟩ (fun ρr55q => ?_)
  refine rl (o_idxArr (i := 1) rfl rfl Tryd.underlying25 Tryd.sizeOf24 (by omega) (by omega) ?_) rfl
  refine rl0 (o_store1 (v := .slice ao3 ((jput crcOf ⟨b, m, c, ps⟩ ((jload crcOf ⟨s0, s1, la, wa, wr⟩).2 + 1)).length) c3) rfl rfl hB6 tyS24 rfl (Nat.le_of_ble_eq_true rfl) (fun w64 hk65 hz66 hB67 => ?_)) rfl
  replace hB67 : Box w64 b1 [.slice a0 s0.length p0, .slice ao3 ((jput crcOf ⟨b, m, c, ps⟩ ((jload crcOf ⟨s0, s1, la, wa, wr⟩).2 + 1)).length) c3, .int .i64 (1), .slice a1 s1.length p1, .bool (true)] 27 := hB67
  replace hK := hK.later hk65 (fun i hi hS => by have h1 : i = b1 := hS; omega)
  replace hB12 := hB12.kp hk65 (by show ¬ b7 = b1; omega)
  replace hB18 := hB18.kp hk65 (by show ¬ b13 = b1; omega)
  replace hB29 := hB29.kp hk65 (by show ¬ b24 = b1; omega)
  replace hT := hT.kp hk65 (fun h => by have h2 : (0 : Nat) = b1 := h; omega)
  replace hR0 := hR0.kp hk65 (fun i _ hF hS => by have h1 : i < w.heap.size := hF; have h2 : i = b1 := hS; omega)
  replace hR1 := hR1.kp hk65 (fun i _ hF hS => by have h1 : i < w.heap.size := hF; have h2 : i = b1 := hS; omega)
  replace hR := hR.kp hk65 (fun i _ hF hS => by have h1 : i < w.heap.size := hF; have h2 : i = b1 := hS; omega)
  replace hP := hP.kp hk65 (fun i _ hF hS => by have h1 : w46.heap.size ≤ i := hF; have h2 : i = b1 := hS; omega)
  replace hB6 := hB67
  refine rl_nil ?_
  refine cw_reg rfl ?_
  refine rl (o_loadBA (ds := [.slice a0 s0.length p0, .slice ao3 ((jput crcOf ⟨b, m, c, ps⟩ ((jload crcOf ⟨s0, s1, la, wa, wr⟩).2 + 1)).length) c3, .int .i64 (1), .slice a1 s1.length p1, .bool (true)]) rfl hB6 tyA27 rfl rfl ?_) rfl
  refine rl0 (o_storeA (vs := [.slice a0 s0.length p0, .slice ao3 ((jput crcOf ⟨b, m, c, ps⟩ ((jload crcOf ⟨s0, s1, la, wa, wr⟩).2 + 1)).length) c3, .int .i64 (1), .slice a1 s1.length p1, .bool (true)]) rfl rfl hB18 tyA27 rfl rfl (Nat.le_of_ble_eq_true rfl) (fun w68 hk69 hz70 hB71 => ?_)) rfl
  replace hB71 : Box w68 b13 [.slice a0 s0.length p0, .slice ao3 ((jput crcOf ⟨b, m, c, ps⟩ ((jload crcOf ⟨s0, s1, la, wa, wr⟩).2 + 1)).length) c3, .int .i64 (1), .slice a1 s1.length p1, .bool (true)] 27 := hB71
  replace hK := hK.later hk69 (fun i hi hS => by have h1 : i = b13 := hS; omega)
  replace hB6 := hB6.kp hk69 (by show ¬ b1 = b13; omega)
  replace hB12 := hB12.kp hk69 (by show ¬ b7 = b13; omega)
  replace hB29 := hB29.kp hk69 (by show ¬ b24 = b13; omega)
  replace hT := hT.kp hk69 (fun h => by have h2 : (0 : Nat) = b13 := h; omega)
  replace hR0 := hR0.kp hk69 (fun i _ hF hS => by have h1 : i < w.heap.size := hF; have h2 : i = b13 := hS; omega)
  replace hR1 := hR1.kp hk69 (fun i _ hF hS => by have h1 : i < w.heap.size := hF; have h2 : i = b13 := hS; omega)
  replace hR := hR.kp hk69 (fun i _ hF hS => by have h1 : i < w.heap.size := hF; have h2 : i = b13 := hS; omega)
  replace hP := hP.kp hk69 (fun i _ hF hS => by have h1 : w46.heap.size ≤ i := hF; have h2 : i = b13 := hS; omega)
  replace hB18 := hB71
  refine rl_nil ?_
  refine cw_ret ?_
  refine ret_intro (v := .agg #[.slice a0 s0.length p0, .slice ao3 ((jput crcOf ⟨b, m, c, ps⟩ ((jload crcOf ⟨s0, s1, la, wa, wr⟩).2 + 1)).length) c3, .int .i64 (1), .slice a1 s1.length p1, .bool (true)]) (res_ok (vs := [.agg #[.slice a0 s0.length p0, .slice ao3 ((jput crcOf ⟨b, m, c, ps⟩ ((jload crcOf ⟨s0, s1, la, wa, wr⟩).2 + 1)).length) c3, .int .i64 (1), .slice a1 s1.length p1, .bool (true)]]) rfl ⟨⟨_, rfl, run_loadA tyA27 rfl (hB18.at_ 0 5)⟩, trivial⟩) hK ?_
  exact ⟨ao3, c3, rfl, hP.mono (fun b _ h => by have h1 : w46.heap.size ≤ b := h; omega)⟩
end Go.Proofs.YtcmlklnelipacaaDoor

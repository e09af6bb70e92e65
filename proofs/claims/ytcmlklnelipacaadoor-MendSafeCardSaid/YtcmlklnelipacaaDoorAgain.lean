import Derived.Test.YtcmlklnelipacaaDoorMpure
import Derived.Test.YtcmlklnelipacaaDoorMap
import Derived.Test.YtcmlklnelipacaaDoorMend
set_option linter.unusedVariables false
set_option linter.unusedSimpArgs false
set_option maxRecDepth 100000
namespace Go.Proofs.YtcmlklnelipacaaDoor
open Go.RowKit Plain
theorem fa56_0 : FieldAt Tryd.prog 56 0 0 := fun a w => by
  simp [Instr.fieldAt, Instr.sureAddr, fieldPlace, Tryd.runUnderlying56, Tryd.sizeOf3]
theorem fa56_1 : FieldAt Tryd.prog 56 1 1 := fun a w => by
  simp [Instr.fieldAt, Instr.sureAddr, fieldPlace, Tryd.runUnderlying56, Tryd.sizeOf3]
theorem mt72 : MapTy Tryd.prog 72 3 3 := ⟨Tryd.underlying72, Tryd.underlying3, Tryd.underlying3, Tryd.zeroValue3⟩
theorem tyA56 : TyA Tryd.prog 56 2 := ⟨Tryd.isAgg56, Tryd.sizeOf56⟩
theorem peak_ok {F : Nat → Prop} (q1 q2 lb lm lc : Int) (bw : Nat) (aL : Option Addr) (cL : Nat) (wl : List Permit) (nL : Nat) (w : World) (hl_nL : nL = wl.length) (hnL : nL ≤ 1000000) (hR : Rd F w 2 (.slice aL nL cL) (wl.map encP)) (hBw : Box w bw [.int .i64 (lb), .int .i64 (lm), .int .i64 (lc), .slice aL nL cL] 32) :
    Calls Tryd.prog 32 #[.agg #[.int .i64 (q1), .int .i64 (q2)], .pointer (some ⟨bw, 0, none⟩)] w (Ret Non w fun v w' => v = .int .i64 (nOf wl ⟨q1, q2⟩)) := by
  have hK := Kp.refl Non w
  subst hl_nL
  have hl_bw := hBw.lt
  replace hR := hR.old
  refine calls_cw Tryd.func32 rfl (Nat.le_of_ble_eq_true rfl) ?_
  refine cw_seq ?_
  refine cw_region rfl ?_
  refine rl (o_box (v := .agg #[.int .i64 (q1), .int .i64 (q2)]) rfl (fun b1 w2 hb3 hz4 hk5 hB6 => ?_)) rfl
  replace hB6 : Box w2 b1 [.int .i64 (q1), .int .i64 (q2)] 56 := hB6
  have hs_b1 := hK.size
  have hl_bw_b1 := hBw.lt
  replace hK := hK.trans (Kp.ext hk5)
  replace hBw := hBw.ext hk5
  replace hR := hR.ext hk5
  refine rl (o_assign (v := .int .i64 (0)) rfl ?_) rfl
  refine rl_nil ?_
  refine k_tn ?_
  refine cw_norm [(1, .pointer (some ⟨bw, 0, none⟩)), (2, .pointer (some ⟨b1, 0, none⟩))] ⟨rfl, rfl, trivial⟩ (fun ρn7 => ?_)
  refine cw_seq ?_
  refine cw_region rfl ?_
  refine rl (o_loadBA (ds := [.int .i64 (lb), .int .i64 (lm), .int .i64 (lc), .slice aL wl.length cL]) rfl hBw tyA32 rfl rfl ?_) rfl
  refine rl (o_field rfl fa56_0 ?_) rfl
  refine rl (o_loadB (v := .int .i64 (q1)) rfl hB6 tyS3 rfl ?_) rfl
  refine rl (o_call (has_ok lb lm lc aL cL wl q1 _ _ rfl (by omega) hR) Tryd.call21 (fun v8 w9 hk10 hv11 => ?_)) rfl
  have hl_bw_w9 := hBw.lt
  have hl_b1_w9 := hB6.lt
  have hs_w9 := hK.size
  have hsk_w9 := hk10.size
  obtain rfl := hv11
  replace hK := hK.trans (Kp.ext hk10)
  replace hBw := hBw.ext hk10
  replace hB6 := hB6.ext hk10
  replace hR := hR.ext hk10
  refine rl (o_move (v := .tuple #[.agg #[.int .i64 ((oneOf (fun p : Permit => decide (p.car = q1)) wl).car), .int .i64 ((oneOf (fun p : Permit => decide (p.car = q1)) wl).peak)], .bool (decide (0 ≤ idxOf (fun p : Permit => decide (p.car = q1)) wl))]) rfl ?_) rfl
  refine rl (o_extract (vs := [.agg #[.int .i64 ((oneOf (fun p : Permit => decide (p.car = q1)) wl).car), .int .i64 ((oneOf (fun p : Permit => decide (p.car = q1)) wl).peak)], .bool (decide (0 ≤ idxOf (fun p : Permit => decide (p.car = q1)) wl))]) (v := .agg #[.int .i64 ((oneOf (fun p : Permit => decide (p.car = q1)) wl).car), .int .i64 ((oneOf (fun p : Permit => decide (p.car = q1)) wl).peak)]) rfl rfl ?_) rfl
  refine rl (o_extract (vs := [.agg #[.int .i64 ((oneOf (fun p : Permit => decide (p.car = q1)) wl).car), .int .i64 ((oneOf (fun p : Permit => decide (p.car = q1)) wl).peak)], .bool (decide (0 ≤ idxOf (fun p : Permit => decide (p.car = q1)) wl))]) (v := .bool (decide (0 ≤ idxOf (fun p : Permit => decide (p.car = q1)) wl))) rfl rfl ?_) rfl
  refine rl (o_alloc Tryd.zeroValue57 (fun b12 w13 hb14 hz15 hk16 hB17 => ?_)) rfl
  replace hB17 : Box w13 b12 [.int .i64 (0), .int .i64 (0)] 57 := hB17
  have hs_b12 := hK.size
  have hl_bw_b12 := hBw.lt
  have hl_b1_b12 := hB6.lt
  replace hK := hK.trans (Kp.ext hk16)
  replace hBw := hBw.ext hk16
  replace hB6 := hB6.ext hk16
  replace hR := hR.ext hk16
  refine rl0 (o_storeA (vs := [.int .i64 ((oneOf (fun p : Permit => decide (p.car = q1)) wl).car), .int .i64 ((oneOf (fun p : Permit => decide (p.car = q1)) wl).peak)]) rfl rfl hB17 tyA57 rfl rfl (Nat.le_of_ble_eq_true rfl) (fun w18 hk19 hz20 hB21 => ?_)) rfl
  replace hB21 : Box w18 b12 [.int .i64 ((oneOf (fun p : Permit => decide (p.car = q1)) wl).car), .int .i64 ((oneOf (fun p : Permit => decide (p.car = q1)) wl).peak)] 57 := hB21
  replace hK := hK.later hk19 (fun i hi hS => by have h1 : i = b12 := hS; omega)
  replace hBw := hBw.kp hk19 (by show ¬ bw = b12; omega)
  replace hB6 := hB6.kp hk19 (by show ¬ b1 = b12; omega)
  replace hR := hR.kp hk19 (fun i _ hF hS => by have h1 : i < w.heap.size := hF; have h2 : i = b12 := hS; omega)
  replace hB17 := hB21
  refine rl (o_assign (v := .bool (decide (0 ≤ idxOf (fun p : Permit => decide (p.car = q1)) wl))) rfl ?_) rfl
  refine rl_nil ?_
  refine k_tn ?_
  refine cw_norm [(2, .pointer (some ⟨b1, 0, none⟩)), (4, .pointer (some ⟨b12, 0, none⟩))] ⟨rfl, rfl, trivial⟩ (fun ρn22 => ?_)
  refine cw_reg rfl ?_
  refine rl (o_field rfl fa56_1 ?_) rfl
  refine rl (o_loadB (v := .int .i64 (q2)) rfl hB6 tyS3 rfl ?_) rfl
  refine rl (o_field rfl fa57_1 ?_) rfl
  refine rl (o_loadB (v := .int .i64 ((oneOf (fun p : Permit => decide (p.car = q1)) wl).peak)) rfl hB17 tyS3 rfl ?_) rfl
  refine rl (o_max rfl rfl ?_) rfl
  refine rl (o_call (within_ok (max q2 (oneOf (fun p : Permit => decide (p.car = q1)) wl).peak) 0 1048576 _) Tryd.call31 (fun v23 w24 hk25 hv26 => ?_)) rfl
  have hl_bw_w24 := hBw.lt
  have hl_b1_w24 := hB6.lt
  have hl_b12_w24 := hB17.lt
  have hs_w24 := hK.size
  have hsk_w24 := hk25.size
  obtain rfl := hv26
  replace hK := hK.trans (Kp.ext hk25)
  replace hBw := hBw.ext hk25
  replace hB6 := hB6.ext hk25
  replace hB17 := hB17.ext hk25
  replace hR := hR.ext hk25
  refine rl (o_assign (v := .int .i64 (min (max (max q2 (oneOf (fun p : Permit => decide (p.car = q1)) wl).peak) 0) 1048576)) rfl ?_) rfl
  refine rl_nil ?_
  refine cw_ret ?_
  refine ret_intro (v := .int .i64 (min (max (max q2 (oneOf (fun p : Permit => decide (p.car = q1)) wl).peak) 0) 1048576)) (res_ok (vs := [.int .i64 (min (max (max q2 (oneOf (fun p : Permit => decide (p.car = q1)) wl).peak) 0) 1048576)]) rfl ⟨rfl, trivial⟩) hK ?_
  exact rfl

set_option maxHeartbeats 16000000 in
theorem again_ok {F0 F1 Fw : Nat → Prop} (a0 a1 aw : Option Addr) (p0 p1 pw : Nat) (s0 s1 wa : List Int) (la : Int) (wr : Bool) {F : Nat → Prop} (am : Option Addr) (cm : Nat) (ms : List Permit) (bg : Int) (lw : Ledger) (qw : Int) (n0 : Nat) (n1 : Nat) (nw : Nat) (nm : Nat) (w : World) (hl_nm : nm = ms.length) (hl_nw : nw = wa.length) (hl_n1 : n1 = s1.length) (hl_n0 : n0 = s0.length) (hn0 : n0 ≤ 1000000) (hn1 : n1 ≤ 1000000) (hB0 : isB s0) (hB1 : isB s1) (hj : jload crcOf ⟨s0, s1, la, wa, wr⟩ = (lw, qw)) (hwn : lw.l.length ≤ 100000) (hmn : nm ≤ 100) (hmr : ∀ m ∈ ms, (-9223372036854775808 ≤ m.car ∧ m.car ≤ 9223372036854775807) ∧ -9223372036854775808 ≤ m.peak ∧ m.peak ≤ 9223372036854775807) (hT : Tab w) (hR0 : Rd F0 w 1 (.slice a0 n0 p0) (s0.map encB)) (hR1 : Rd F1 w 1 (.slice a1 n1 p1) (s1.map encB)) (hMs : Rd F w 2 (.slice am nm cm) (ms.map encP)) :
    Calls Tryd.prog 19 #[.agg #[.slice a0 n0 p0, .slice a1 n1 p1, .int .i64 (la), .slice aw nw pw, .bool (wr)], .slice am nm cm, .int .i64 (bg)] w (Ret Non w fun v w' => ∃ (nO nS : Nat) (aoO aoS : Option Addr) (cO cS : Nat), v = .tuple #[.agg #[.int .i64 (min (max bg 0) 1048576), .int .i64 lw.margin, .int .i64 0, .slice aoO nO cO], .slice aoS nS cS] ∧ nO = (agN lw.l (min (max bg 0) 1048576) ms ms.length).1.length ∧ nS = (agN lw.l (min (max bg 0) 1048576) ms ms.length).2.length ∧ Rd (fun b => w.heap.size ≤ b) w' 2 (.slice aoO nO cO) ((agN lw.l (min (max bg 0) 1048576) ms ms.length).1.map encP) ∧ Rd (fun b => w.heap.size ≤ b) w' 1 (.slice aoS nS cS) ((agN lw.l (min (max bg 0) 1048576) ms ms.length).2.map encI)) := by
  have hK := Kp.refl Non w
  subst hl_n0
  subst hl_n1
  subst hl_nw
  subst hl_nm
  replace hR0 := hR0.old
  replace hR1 := hR1.old
  replace hMs := hMs.old
  have h00 := hT.1
  refine calls_cw Tryd.func19 rfl (Nat.le_of_ble_eq_true rfl) ?_
  refine cw_seq ?_
  refine cw_region rfl ?_
  refine rl (o_box (v := .agg #[.slice a0 s0.length p0, .slice a1 s1.length p1, .int .i64 (la), .slice aw wa.length pw, .bool (wr)]) rfl (fun b1 w2 hb3 hz4 hk5 hB6 => ?_)) rfl
  replace hB6 : Box w2 b1 [.slice a0 s0.length p0, .slice a1 s1.length p1, .int .i64 (la), .slice aw wa.length pw, .bool (wr)] 27 := hB6
  have hs_b1 := hK.size
  replace hK := hK.trans (Kp.ext hk5)
  replace hT := hT.ext hk5
  replace hR0 := hR0.ext hk5
  replace hR1 := hR1.ext hk5
  replace hMs := hMs.ext hk5
  refine rl (o_alloc Tryd.zeroValue32 (fun b7 w8 hb9 hz10 hk11 hB12 => ?_)) rfl
  replace hB12 : Box w8 b7 [.int .i64 (0), .int .i64 (0), .int .i64 (0), .slice none 0 0] 32 := hB12
  have hs_b7 := hK.size
  have hl_b1_b7 := hB6.lt
  replace hK := hK.trans (Kp.ext hk11)
  replace hB6 := hB6.ext hk11
  replace hT := hT.ext hk11
  replace hR0 := hR0.ext hk11
  replace hR1 := hR1.ext hk11
  replace hMs := hMs.ext hk11
  refine rl (o_assign (v := .slice none 0 0) rfl ?_) rfl
  refine rl_nil ?_
  refine k_tn ?_
  refine cw_norm [(1, .slice am ms.length cm), (2, .int .i64 (bg)), (3, .pointer (some ⟨b1, 0, none⟩)), (6, .pointer (some ⟨b7, 0, none⟩))] ⟨rfl, rfl, rfl, rfl, trivial⟩ (fun ρn13 => ?_)
  refine cw_seq ?_
  refine cw_region rfl ?_
  refine rl (o_loadBA (ds := [.slice a0 s0.length p0, .slice a1 s1.length p1, .int .i64 (la), .slice aw wa.length pw, .bool (wr)]) rfl hB6 tyA27 rfl rfl ?_) rfl
  refine rl (o_call (jload_to _ _ _ _ _ _ s0 s1 wa la wr _ _ _ lw qw _ _ hj rfl rfl rfl rfl hn0 hn1 hB0 hB1 hT hR0 hR1) Tryd.call12 (fun v14 w15 hk16 hv17 => ?_)) rfl
  have hl_b1_w15 := hB6.lt
  have hl_b7_w15 := hB12.lt
  have hs_w15 := hK.size
  have hsk_w15 := hk16.size
  obtain ⟨aoL, cL, rfl, hL⟩ := hv17
  replace hK := hK.trans (Kp.ext hk16)
  replace hB6 := hB6.ext hk16
  replace hB12 := hB12.ext hk16
  replace hT := hT.ext hk16
  replace hR0 := hR0.ext hk16
  replace hR1 := hR1.ext hk16
  replace hMs := hMs.ext hk16
  replace hL := hL.mono (G := fun b => w8.heap.size ≤ b ∧ b < w15.heap.size) (fun b hb h => ⟨h, hb⟩)
  have hTr_w15 := Kp.refl (fun _ => True) w15
  refine rl (o_move (v := .tuple #[.agg #[.int .i64 (lw.budget), .int .i64 (lw.margin), .int .i64 (lw.credit), .slice aoL lw.l.length cL], .int .u64 (qw), .bool (decide (0 < qw))]) rfl ?_) rfl
  refine rl (o_extract (vs := [.agg #[.int .i64 (lw.budget), .int .i64 (lw.margin), .int .i64 (lw.credit), .slice aoL lw.l.length cL], .int .u64 (qw), .bool (decide (0 < qw))]) (v := .agg #[.int .i64 (lw.budget), .int .i64 (lw.margin), .int .i64 (lw.credit), .slice aoL lw.l.length cL]) rfl rfl ?_) rfl
  refine rl (o_extract (vs := [.agg #[.int .i64 (lw.budget), .int .i64 (lw.margin), .int .i64 (lw.credit), .slice aoL lw.l.length cL], .int .u64 (qw), .bool (decide (0 < qw))]) (v := .int .u64 (qw)) rfl rfl ?_) rfl
  refine rl (o_extract (vs := [.agg #[.int .i64 (lw.budget), .int .i64 (lw.margin), .int .i64 (lw.credit), .slice aoL lw.l.length cL], .int .u64 (qw), .bool (decide (0 < qw))]) (v := .bool (decide (0 < qw))) rfl rfl ?_) rfl
  refine rl (o_alloc Tryd.zeroValue32 (fun b18 w19 hb20 hz21 hk22 hB23 => ?_)) rfl
  replace hB23 : Box w19 b18 [.int .i64 (0), .int .i64 (0), .int .i64 (0), .slice none 0 0] 32 := hB23
  have hs_b18 := hK.size
  have hl_b1_b18 := hB6.lt
  have hl_b7_b18 := hB12.lt
  have ht_hTr_w15_b18 := hTr_w15.size
  replace hK := hK.trans (Kp.ext hk22)
  replace hB6 := hB6.ext hk22
  replace hB12 := hB12.ext hk22
  replace hT := hT.ext hk22
  replace hR0 := hR0.ext hk22
  replace hR1 := hR1.ext hk22
  replace hMs := hMs.ext hk22
  replace hL := hL.ext hk22
  replace hTr_w15 := hTr_w15.trans (Kp.ext hk22)
  refine rl0 (o_storeA (vs := [.int .i64 (lw.budget), .int .i64 (lw.margin), .int .i64 (lw.credit), .slice aoL lw.l.length cL]) rfl rfl hB23 tyA32 rfl rfl (Nat.le_of_ble_eq_true rfl) (fun w24 hk25 hz26 hB27 => ?_)) rfl
  replace hB27 : Box w24 b18 [.int .i64 (lw.budget), .int .i64 (lw.margin), .int .i64 (lw.credit), .slice aoL lw.l.length cL] 32 := hB27
  replace hK := hK.later hk25 (fun i hi hS => by have h1 : i = b18 := hS; omega)
  replace hB6 := hB6.kp hk25 (by show ¬ b1 = b18; omega)
  replace hB12 := hB12.kp hk25 (by show ¬ b7 = b18; omega)
  replace hT := hT.kp hk25 (fun h => by have h2 : (0 : Nat) = b18 := h; omega)
  replace hR0 := hR0.kp hk25 (fun i _ hF hS => by have h1 : i < w.heap.size := hF; have h2 : i = b18 := hS; omega)
  replace hR1 := hR1.kp hk25 (fun i _ hF hS => by have h1 : i < w.heap.size := hF; have h2 : i = b18 := hS; omega)
  replace hMs := hMs.kp hk25 (fun i _ hF hS => by have h1 : i < w.heap.size := hF; have h2 : i = b18 := hS; omega)
  replace hL := hL.kp hk25 (fun i _ hF hS => by have h1 : w8.heap.size ≤ i ∧ i < w15.heap.size := hF; have h2 : i = b18 := hS; omega)
  replace hTr_w15 := hTr_w15.trans (hk25.mono (fun _ _ _ => trivial))
  replace hB23 := hB27
  refine rl (o_assign (v := .int .u64 (qw)) rfl ?_) rfl
  refine rl (o_assign (v := .bool (decide (0 < qw))) rfl ?_) rfl
  refine rl_nil ?_
  refine k_tn ?_
  refine cw_norm [(1, .slice am ms.length cm), (2, .int .i64 (bg)), (6, .pointer (some ⟨b7, 0, none⟩)), (8, .pointer (some ⟨b18, 0, none⟩))] ⟨rfl, rfl, rfl, rfl, trivial⟩ (fun ρn28 => ?_)
  have ht_hTr_w15_d1 := hTr_w15.size
  have hl_b1_d1 := hB6.lt
  have hl_b7_d1 := hB12.lt
  have hl_b18_d1 := hB23.lt
  refine cw_norm [(1, .slice am ms.length cm), (2, .int .i64 (bg)), (6, .pointer (some ⟨b7, 0, none⟩)), (8, .pointer (some ⟨b18, 0, none⟩))] ⟨rfl, rfl, rfl, rfl, trivial⟩ (fun ρr40 => ?_)
  have hsr1 := hK.size
  refine cw_drawnK (fun _ => False) (fun _ _ _ => False) 7 [.val (.int .i64 (bg)), .val (.int .i64 ((min (max bg 0) 1048576))), .val (.pointer (some ⟨b18, 1, none⟩)), .val (.int .i64 (lw.margin)), .val (.agg #[.int .i64 ((min (max bg 0) 1048576)), .int .i64 (lw.margin), .int .i64 (0), .slice none 0 0]), .fact (fun c wq => (cv c 0) = .pointer (some ⟨(pBlk (cv c 0)), 0, none⟩) ∧ (w24.heap.size ≤ (ca c 0)) ∧ ((ca c 0) ≤ (pBlk (cv c 0)) ∧ (pBlk (cv c 0)) < (ce c 0)) ∧ (Box wq (pBlk (cv c 0)) [.int .i64 (0), .int .i64 (0), .int .i64 (0), .slice none 0 0] 32))] [.val (.int .i64 (bg)), .val (.int .i64 ((min (max bg 0) 1048576))), .val (.pointer (some ⟨b18, 1, none⟩)), .val (.int .i64 (lw.margin)), .val (.agg #[.int .i64 ((min (max bg 0) 1048576)), .int .i64 (lw.margin), .int .i64 (0), .slice none 0 0]), .fact (fun c wq => (cv c 0) = .pointer (some ⟨(pBlk (cv c 0)), 0, none⟩) ∧ (w24.heap.size ≤ (ca c 0)) ∧ ((ca c 0) ≤ (pBlk (cv c 0)) ∧ (pBlk (cv c 0)) < (ce c 0)) ∧ (Box wq (pBlk (cv c 0)) [.int .i64 (0), .int .i64 (0), .int .i64 (0), .slice none 0 0] 32))] [[], [0], [], [2], [0, 1, 2, 3], [], [0, 1, 2, 3, 4, 5]] 6 mixed (by kernel_rfl) (fun _ _ _ _ _ h => h) ⟨upK_val, upK_val, upK_val, upK_val, upK_val, upK_ext (fun c wq wq' ⟨hv, hlo5, hge_b34, hB39⟩ hk => ⟨hv, hlo5, hge_b34, hB39.ext hk⟩), trivial⟩ ⟨⟨⟨⟨⟨⟨trivial, ?_⟩, ?_⟩, ?_⟩, ?_⟩, ?_⟩, ?_⟩ (fun w41 vs42 lo43 hi44 hE45 hkn46 hap47 => ?_)
  · refine oblK_post rfl rfl (fun w41k vs lo hi hE hkn hap => ?_)
    have hEs := hE.size
    replace hK := hK.trans (Kp.ext hE)
    replace hB6 := hB6.ext hE
    replace hB12 := hB12.ext hE
    replace hB23 := hB23.ext hE
    replace hT := hT.ext hE
    replace hR0 := hR0.ext hE
    replace hR1 := hR1.ext hE
    replace hMs := hMs.ext hE
    replace hL := hL.ext hE
    replace hTr_w15 := hTr_w15.trans (Kp.ext hE)
    refine oblK_n rfl ?_
    refine opk_norm [(2, .int .i64 (bg))] ⟨rfl, trivial⟩ (fun ρq => ?_)
    refine o_move (v := .int .i64 (bg)) rfl ?_
    exact ⟨Kp.refl _ _, rfl⟩
  · refine oblK_post rfl rfl (fun w41k vs lo hi hE hkn hap => ?_)
    have hEs := hE.size
    replace hK := hK.trans (Kp.ext hE)
    replace hB6 := hB6.ext hE
    replace hB12 := hB12.ext hE
    replace hB23 := hB23.ext hE
    replace hT := hT.ext hE
    replace hR0 := hR0.ext hE
    replace hR1 := hR1.ext hE
    replace hMs := hMs.ext hE
    replace hL := hL.ext hE
    replace hTr_w15 := hTr_w15.trans (Kp.ext hE)
    refine oblK_n rfl ?_
    refine opk_norm [(24, .int .i64 (bg))] ⟨rfl, trivial⟩ (fun ρq => ?_)
    refine o_call (within_ok bg 0 1048576 _) Tryd.call31 (fun v48 w49 hk50 hv51 => ?_)
    have hl_b1_w49 := hB6.lt
    have hl_b7_w49 := hB12.lt
    have hl_b18_w49 := hB23.lt
    have hs_w49 := hK.size
    have hsk_w49 := hk50.size
    obtain rfl := hv51
    replace hK := hK.trans (Kp.ext hk50)
    replace hB6 := hB6.ext hk50
    replace hB12 := hB12.ext hk50
    replace hB23 := hB23.ext hk50
    replace hT := hT.ext hk50
    replace hR0 := hR0.ext hk50
    replace hR1 := hR1.ext hk50
    replace hMs := hMs.ext hk50
    replace hL := hL.ext hk50
    replace hTr_w15 := hTr_w15.trans (Kp.ext hk50)
    exact ⟨hk50, rfl⟩
  · refine oblK_post rfl rfl (fun w41k vs lo hi hE hkn hap => ?_)
    have hEs := hE.size
    replace hK := hK.trans (Kp.ext hE)
    replace hB6 := hB6.ext hE
    replace hB12 := hB12.ext hE
    replace hB23 := hB23.ext hE
    replace hT := hT.ext hE
    replace hR0 := hR0.ext hE
    replace hR1 := hR1.ext hE
    replace hMs := hMs.ext hE
    replace hL := hL.ext hE
    replace hTr_w15 := hTr_w15.trans (Kp.ext hE)
    refine oblK_n rfl ?_
    refine opk_norm [(8, .pointer (some ⟨b18, 0, none⟩))] ⟨rfl, trivial⟩ (fun ρq => ?_)
    refine o_field rfl fa32_1 ?_
    exact ⟨Kp.refl _ _, rfl⟩
  · refine oblK_post rfl rfl (fun w41k vs lo hi hE hkn hap => ?_)
    have hEs := hE.size
    replace hK := hK.trans (Kp.ext hE)
    replace hB6 := hB6.ext hE
    replace hB12 := hB12.ext hE
    replace hB23 := hB23.ext hE
    replace hT := hT.ext hE
    replace hR0 := hR0.ext hE
    replace hR1 := hR1.ext hE
    replace hMs := hMs.ext hE
    replace hL := hL.ext hE
    replace hTr_w15 := hTr_w15.trans (Kp.ext hE)
    refine oblK_n rfl ?_
    refine opk_norm [(26, .pointer (some ⟨b18, 1, none⟩))] ⟨rfl, trivial⟩ (fun ρq => ?_)
    refine o_loadB (v := .int .i64 (lw.margin)) rfl hB23 tyS3 rfl ?_
    exact ⟨Kp.refl _ _, rfl⟩
  · refine oblK_post rfl rfl (fun w41k vs lo hi hE hkn hap => ?_)
    have hEs := hE.size
    replace hK := hK.trans (Kp.ext hE)
    replace hB6 := hB6.ext hE
    replace hB12 := hB12.ext hE
    replace hB23 := hB23.ext hE
    replace hT := hT.ext hE
    replace hR0 := hR0.ext hE
    replace hR1 := hR1.ext hE
    replace hMs := hMs.ext hE
    replace hL := hL.ext hE
    replace hTr_w15 := hTr_w15.trans (Kp.ext hE)
    refine oblK_n rfl ?_
    refine opk_norm [(25, .int .i64 ((min (max bg 0) 1048576))), (27, .int .i64 (lw.margin))] ⟨rfl, rfl, trivial⟩ (fun ρq => ?_)
    refine o_build (cs := [.int .i64 ((min (max bg 0) 1048576)), .int .i64 (lw.margin), .int .i64 (0), .slice none 0 0]) bt32 rfl ?_
    exact ⟨Kp.refl _ _, rfl⟩
  · refine oblK_post rfl rfl (fun w41k vs lo hi hE hkn hap => ?_)
    have hEs := hE.size
    replace hK := hK.trans (Kp.ext hE)
    replace hB6 := hB6.ext hE
    replace hB12 := hB12.ext hE
    replace hB23 := hB23.ext hE
    replace hT := hT.ext hE
    replace hR0 := hR0.ext hE
    replace hR1 := hR1.ext hE
    replace hMs := hMs.ext hE
    replace hL := hL.ext hE
    replace hTr_w15 := hTr_w15.trans (Kp.ext hE)
    refine oblK_n rfl ?_
    refine opk_norm [] trivial (fun ρq => ?_)
    refine o_alloc Tryd.zeroValue32 (fun b52 w53 hb54 hz55 hk56 hB57 => ?_)
    replace hB57 : Box w53 b52 [.int .i64 (0), .int .i64 (0), .int .i64 (0), .slice none 0 0] 32 := hB57
    have hs_b52 := hK.size
    have hl_b1_b52 := hB6.lt
    have hl_b7_b52 := hB12.lt
    have hl_b18_b52 := hB23.lt
    have ht_hTr_w15_b52 := hTr_w15.size
    replace hK := hK.trans (Kp.ext hk56)
    replace hB6 := hB6.ext hk56
    replace hB12 := hB12.ext hk56
    replace hB23 := hB23.ext hk56
    replace hT := hT.ext hk56
    replace hR0 := hR0.ext hk56
    replace hR1 := hR1.ext hk56
    replace hMs := hMs.ext hk56
    replace hL := hL.ext hk56
    replace hTr_w15 := hTr_w15.trans (Kp.ext hk56)
    exact ⟨hk56, rfl, hEs, ⟨by first | assumption | omega, hB57.lt⟩, hB57⟩
  have hsE1 := hE45.size
  replace hK := hK.trans (Kp.ext hE45)
  replace hB6 := hB6.ext hE45
  replace hB12 := hB12.ext hE45
  replace hB23 := hB23.ext hE45
  replace hT := hT.ext hE45
  replace hR0 := hR0.ext hE45
  replace hR1 := hR1.ext hE45
  replace hMs := hMs.ext hE45
  replace hL := hL.ext hE45
  replace hTr_w15 := hTr_w15.trans (Kp.ext hE45)
  obtain ⟨⟨⟨hv5_t, hlo5_t, hge_b34_t, hB39_t⟩, hq1_5, hq2_5, hq3_5⟩, -, -, -, -, -, -⟩ := hkn46
  obtain ⟨b34, hv5, hlo5, hge_b34, hB39⟩ : ∃ (b34 : Nat), (vs42 5 = .pointer (some ⟨b34, 0, none⟩)) ∧ (w24.heap.size ≤ (lo43 5)) ∧ ((lo43 5) ≤ b34 ∧ b34 < (hi44 5)) ∧ (Box w41 b34 [.int .i64 (0), .int .i64 (0), .int .i64 (0), .slice none 0 0] 32) := ⟨_, hv5_t, hlo5_t, hge_b34_t, hB39_t⟩
  clear hB39_t hge_b34_t hlo5_t hv5_t
  replace hq1_5 : w24.heap.size ≤ lo43 5 := hq1_5
  replace hq2_5 : lo43 5 ≤ hi44 5 := hq2_5
  replace hq3_5 : hi44 5 ≤ w41.heap.size := hq3_5
  refine rl_norm [(1, .slice am ms.length cm), (6, .pointer (some ⟨b7, 0, none⟩)), (8, .pointer (some ⟨b18, 0, none⟩)), (11, .pointer (some ⟨b34, 0, none⟩)), (28, .agg #[.int .i64 ((min (max bg 0) 1048576)), .int .i64 (lw.margin), .int .i64 (0), .slice none 0 0])] ⟨rfl, rfl, rfl, hv5, rfl, trivial⟩ (fun ρr40q => ?_)
  refine rl0 (o_storeA (vs := [.int .i64 ((min (max bg 0) 1048576)), .int .i64 (lw.margin), .int .i64 (0), .slice none 0 0]) rfl rfl hB39 tyA32 rfl rfl (Nat.le_of_ble_eq_true rfl) (fun w58 hk59 hz60 hB61 => ?_)) rfl
  replace hB61 : Box w58 b34 [.int .i64 ((min (max bg 0) 1048576)), .int .i64 (lw.margin), .int .i64 (0), .slice none 0 0] 32 := hB61
  replace hK := hK.later hk59 (fun i hi hS => by have h1 : i = b34 := hS; omega)
  replace hB6 := hB6.kp hk59 (by show ¬ b1 = b34; omega)
  replace hB12 := hB12.kp hk59 (by show ¬ b7 = b34; omega)
  replace hB23 := hB23.kp hk59 (by show ¬ b18 = b34; omega)
  replace hT := hT.kp hk59 (fun h => by have h2 : (0 : Nat) = b34 := h; omega)
  replace hR0 := hR0.kp hk59 (fun i _ hF hS => by have h1 : i < w.heap.size := hF; have h2 : i = b34 := hS; omega)
  replace hR1 := hR1.kp hk59 (fun i _ hF hS => by have h1 : i < w.heap.size := hF; have h2 : i = b34 := hS; omega)
  replace hMs := hMs.kp hk59 (fun i _ hF hS => by have h1 : i < w.heap.size := hF; have h2 : i = b34 := hS; omega)
  replace hL := hL.kp hk59 (fun i _ hF hS => by have h1 : w8.heap.size ≤ i ∧ i < w15.heap.size := hF; have h2 : i = b34 := hS; omega)
  replace hTr_w15 := hTr_w15.trans (hk59.mono (fun _ _ _ => trivial))
  replace hB39 := hB61
  refine rl_nil ?_
  refine cw_seq ?_
  refine cw_region rfl ?_
  refine rl (o_makeMap (k := 3) (e := 3) (fun b62 w63 hb64 hz65 hk66 hM67 => ?_)) rfl
  have hs_b62 := hK.size
  have hl_b1_b62 := hB6.lt
  have hl_b7_b62 := hB12.lt
  have hl_b18_b62 := hB23.lt
  have hl_b34_b62 := hB39.lt
  replace hK := hK.trans (Kp.ext hk66)
  replace hB6 := hB6.ext hk66
  replace hB12 := hB12.ext hk66
  replace hB23 := hB23.ext hk66
  replace hB39 := hB39.ext hk66
  replace hT := hT.ext hk66
  replace hR0 := hR0.ext hk66
  replace hR1 := hR1.ext hk66
  replace hMs := hMs.ext hk66
  replace hL := hL.ext hk66
  replace hTr_w15 := hTr_w15.trans (Kp.ext hk66)
  have hM : OwnM Tryd.prog 3 3 w63 b62 (0) ((fun _ => 0)) := hM67
  have hlm_b62 := hM.lt
  refine rl (o_assign (v := .map (some b62)) rfl ?_) rfl
  refine rl_nil ?_
  refine k_tn ?_
  refine cw_norm [(1, .slice am ms.length cm), (6, .pointer (some ⟨b7, 0, none⟩)), (8, .pointer (some ⟨b18, 0, none⟩)), (11, .pointer (some ⟨b34, 0, none⟩)), (12, .map (some b62))] ⟨rfl, rfl, rfl, rfl, rfl, trivial⟩ (fun ρn68 => ?_)
  refine cw_seq ?_
  refine cw_region rfl ?_
  refine rl (o_makeFunc ?_) rfl
  refine rl (o_assign (v := .func (.func 32) #[] #[.pointer (some ⟨b18, 0, none⟩)]) rfl ?_) rfl
  refine rl_nil ?_
  refine k_tn ?_
  refine cw_norm [(1, .slice am ms.length cm), (6, .pointer (some ⟨b7, 0, none⟩)), (11, .pointer (some ⟨b34, 0, none⟩)), (12, .map (some b62)), (13, .func (.func 32) #[] #[.pointer (some ⟨b18, 0, none⟩)])] ⟨rfl, rfl, rfl, rfl, rfl, trivial⟩ (fun ρn69 => ?_)
  refine cw_seq ?_
  refine cw_region rfl ?_
  refine rl (o_assign (v := .slice none 0 0) rfl ?_) rfl
  refine rl_nil ?_
  refine k_tn ?_
  refine cw_norm [(1, .slice am ms.length cm), (6, .pointer (some ⟨b7, 0, none⟩)), (11, .pointer (some ⟨b34, 0, none⟩)), (12, .map (some b62)), (13, .func (.func 32) #[] #[.pointer (some ⟨b18, 0, none⟩)]), (14, .slice none 0 0)] ⟨rfl, rfl, rfl, rfl, rfl, rfl, trivial⟩ (fun ρn70 => ?_)
  refine cw_seq ?_
  refine cw_seq ?_
  replace hM := hM.congr (g := cntC (ms.take 0)) (Nat.le_refl 0) (fun q => (cnt_nil q).symm)
  have hswl := hK.size
  have hTl := Kp.refl (fun _ => True) w63
  have hinv := ag_inv lw.l (min (max bg 0) 1048576) ms (by omega)
  refine cw_region rfl ?_
  refine rl (o_move (v := .slice am ms.length cm) rfl ?_) rfl
  refine rl (o_len rfl Tryd.underlying49 ?_) rfl
  refine rl (o_move (v := .int .i64 (0)) rfl ?_) rfl
  refine rl_nil ?_
  refine k_tn ?_
  refine cw_norm [(6, .pointer (some ⟨b7, 0, none⟩)), (11, .pointer (some ⟨b34, 0, none⟩)), (12, .map (some b62)), (13, .func (.func 32) #[] #[.pointer (some ⟨b18, 0, none⟩)]), (14, .slice none 0 0), (31, .slice am ms.length cm), (32, .int .i64 (((ms.length : Nat) : Int))), (33, .int .i64 (0))] ⟨rfl, rfl, rfl, rfl, rfl, rfl, rfl, rfl, trivial⟩ (fun ρn71 => ?_)
  refine cw_block ?_
  refine cw_loop (fun mm ρ' w' => ∃ (ρ0 : Env) (i nO nS : Nat) (aoO aoS : Option Addr) (cO cS : Nat), (ρ' = upds ρ0 [(6, .pointer (some ⟨b7, 0, none⟩)), (11, .pointer (some ⟨b34, 0, none⟩)), (12, .map (some b62)), (13, .func (.func 32) #[] #[.pointer (some ⟨b18, 0, none⟩)]), (14, .slice aoS nS cS), (31, .slice am ms.length cm), (32, .int .i64 (((ms.length : Nat) : Int))), (33, .int .i64 ((i : Int)))]) ∧ (mm = ms.length - i) ∧ (i ≤ ms.length) ∧ (nO = (agN lw.l (min (max bg 0) 1048576) ms i).1.length) ∧ (nS = (agN lw.l (min (max bg 0) 1048576) ms i).2.length) ∧ (Kp Non w w') ∧ (Box w' b1 [.slice a0 s0.length p0, .slice a1 s1.length p1, .int .i64 (la), .slice aw wa.length pw, .bool (wr)] 27) ∧ (Box w' b7 [.int .i64 (0), .int .i64 (0), .int .i64 (0), .slice none 0 0] 32) ∧ (Box w' b18 [.int .i64 (lw.budget), .int .i64 (lw.margin), .int .i64 (lw.credit), .slice aoL lw.l.length cL] 32) ∧ (Box w' b34 [.int .i64 ((min (max bg 0) 1048576)), .int .i64 (lw.margin), .int .i64 (0), .slice aoO nO cO] 32) ∧ (Tab w') ∧ (Rd (fun b => b < w.heap.size) w' 1 (.slice a0 s0.length p0) (s0.map encB)) ∧ (Rd (fun b => b < w.heap.size) w' 1 (.slice a1 s1.length p1) (s1.map encB)) ∧ (Rd (fun b => b < w.heap.size) w' 2 (.slice am ms.length cm) (ms.map encP)) ∧ (Rd (fun b => w8.heap.size ≤ b ∧ b < w15.heap.size) w' 2 (.slice aoL lw.l.length cL) ((lw.l).map encP)) ∧ (Kp (fun _ => True) w15 w') ∧ (Kp (fun _ => True) w63 w') ∧ (w'.ownsRow w63.heap.size 57 2 (.slice aoO nO cO) nO ((agN lw.l (min (max bg 0) 1048576) ms i).1.flatMap encP)) ∧ (w'.ownsRow w63.heap.size 3 1 (.slice aoS nS cS) nS ((agN lw.l (min (max bg 0) 1048576) ms i).2.flatMap encI)) ∧ (OwnM Tryd.prog 3 3 w' b62 (i) (cntC (ms.take i)))) (ms.length - (0)) ?_ ?_
  · skip
    exact ⟨_, 0, 0, 0, none, none, 0, 0, upds_eq _ _ ⟨rfl, rfl, rfl, rfl, rfl, rfl, rfl, rfl, trivial⟩, rfl, Nat.zero_le _, rfl, rfl, hK, hB6, hB12, hB23, hB39, hT, hR0, hR1, hMs, hL, hTr_w15, hTl, own_nil _ _ _ _, own_nil _ _ _ _, hM⟩
  · rintro mm ρ1 w72 ⟨ρ0, i, nO, nS, aoO, aoS, cO, cS, rfl, rfl, hi, hnO, hnS, hK, hB6, hB12, hB23, hB39, hT, hR0, hR1, hMs, hL, hTr_w15, hTl, hO, hStp, hM⟩
    refine cw_seq ?_
    refine cw_region rfl ?_
    refine rl (o_lss rfl rfl ?_) rfl
    refine rl_nil ?_
    refine k_tn ?_
    refine cw_norm [(6, .pointer (some ⟨b7, 0, none⟩)), (11, .pointer (some ⟨b34, 0, none⟩)), (12, .map (some b62)), (13, .func (.func 32) #[] #[.pointer (some ⟨b18, 0, none⟩)]), (14, .slice aoS nS cS), (31, .slice am ms.length cm), (32, .int .i64 (((ms.length : Nat) : Int))), (33, .int .i64 ((i : Int))), (34, .bool (decide ((i : Int) < ((ms.length : Nat) : Int))))] ⟨rfl, rfl, rfl, rfl, rfl, rfl, rfl, rfl, rfl, trivial⟩ (fun ρn73 => ?_)
    refine cw_seq ?_
    refine cw_if rfl (fun h74 => ?_) (fun h74 => ?_)
    · skip
      refine cw_skip ?_
      refine k_tn ?_
      refine cw_norm [(6, .pointer (some ⟨b7, 0, none⟩)), (11, .pointer (some ⟨b34, 0, none⟩)), (12, .map (some b62)), (13, .func (.func 32) #[] #[.pointer (some ⟨b18, 0, none⟩)]), (14, .slice aoS nS cS), (31, .slice am ms.length cm), (32, .int .i64 (((ms.length : Nat) : Int))), (33, .int .i64 ((i : Int)))] ⟨rfl, rfl, rfl, rfl, rfl, rfl, rfl, rfl, trivial⟩ (fun ρn75 => ?_)
      refine cw_seq ?_
      refine cw_block ?_
      refine cw_seq ?_
      obtain ⟨b9, o9, x9, hao9, hxe, hA9, hlt_b9, hF_b9⟩ := Rd.getF hMs i (by omega)
      replace hF_b9 : b9 < w.heap.size := hF_b9
      have hx9 := hmr x9 (List.mem_of_getElem? hxe)
      have hcl := cnt_le (ms.take i) x9.car
      have hcl2 := cnt_le (ms.take (i + 1)) x9.car
      have htl : (ms.take i).length ≤ i := by simp; omega
      have htl2 : (ms.take (i + 1)).length ≤ i + 1 := by simp; omega
      have hiv := hinv i hi
      have hi5 := hiv.i5
      have hi4 := hiv.i4
      have hmbl := hM.lt
      refine cw_region rfl ?_
      refine rl (o_idxAt i rfl rfl Tryd.underlying49 Tryd.sizeOf56 hao9 (by omega) (by omega) ?_) rfl
      refine rl (o_loadA (cs := [.int .i64 (x9.car), .int .i64 (x9.peak)]) rfl tyA56 rfl hA9 ?_) rfl
      refine rl (o_alloc Tryd.zeroValue56 (fun b82 w83 hb84 hz85 hk86 hB87 => ?_)) rfl
      replace hB87 : Box w83 b82 [.int .i64 (0), .int .i64 (0)] 56 := hB87
      have hs_b82 := hK.size
      have hl_b1_b82 := hB6.lt
      have hl_b7_b82 := hB12.lt
      have hl_b18_b82 := hB23.lt
      have hl_b34_b82 := hB39.lt
      have ht_hTr_w15_b82 := hTr_w15.size
      have ht_hTl_b82 := hTl.size
      replace hK := hK.trans (Kp.ext hk86)
      replace hB6 := hB6.ext hk86
      replace hB12 := hB12.ext hk86
      replace hB23 := hB23.ext hk86
      replace hB39 := hB39.ext hk86
      replace hT := hT.ext hk86
      replace hR0 := hR0.ext hk86
      replace hR1 := hR1.ext hk86
      replace hMs := hMs.ext hk86
      replace hL := hL.ext hk86
      replace hTr_w15 := hTr_w15.trans (Kp.ext hk86)
      replace hTl := hTl.trans (Kp.ext hk86)
      replace hO := own_kp hO hk86 (fun _ _ _ x => x)
      replace hStp := own_kp hStp hk86 (fun _ _ _ x => x)
      replace hM := hM.ext hk86
      replace hA9 := At.ext hA9 hk86
      refine rl0 (o_storeA (vs := [.int .i64 (x9.car), .int .i64 (x9.peak)]) rfl rfl hB87 tyA56 rfl rfl (Nat.le_of_ble_eq_true rfl) (fun w88 hk89 hz90 hB91 => ?_)) rfl
      replace hB91 : Box w88 b82 [.int .i64 (x9.car), .int .i64 (x9.peak)] 56 := hB91
      replace hK := hK.later hk89 (fun i hi hS => by have h1 : i = b82 := hS; omega)
      replace hB6 := hB6.kp hk89 (by show ¬ b1 = b82; omega)
      replace hB12 := hB12.kp hk89 (by show ¬ b7 = b82; omega)
      replace hB23 := hB23.kp hk89 (by show ¬ b18 = b82; omega)
      replace hB39 := hB39.kp hk89 (by show ¬ b34 = b82; omega)
      replace hT := hT.kp hk89 (fun h => by have h2 : (0 : Nat) = b82 := h; omega)
      replace hR0 := hR0.kp hk89 (fun i _ hF hS => by have h1 : i < w.heap.size := hF; have h2 : i = b82 := hS; omega)
      replace hR1 := hR1.kp hk89 (fun i _ hF hS => by have h1 : i < w.heap.size := hF; have h2 : i = b82 := hS; omega)
      replace hMs := hMs.kp hk89 (fun i _ hF hS => by have h1 : i < w.heap.size := hF; have h2 : i = b82 := hS; omega)
      replace hL := hL.kp hk89 (fun i _ hF hS => by have h1 : w8.heap.size ≤ i ∧ i < w15.heap.size := hF; have h2 : i = b82 := hS; omega)
      replace hTr_w15 := hTr_w15.trans (hk89.mono (fun _ _ _ => trivial))
      replace hTl := hTl.trans (hk89.mono (fun _ _ _ => trivial))
      replace hO := own_other hO hB87 (by decide) hk89
      replace hStp := own_other hStp hB87 (by decide) hk89
      replace hM := hM.set hk89 hB87
      replace hB87 := hB91
      refine rl_nil ?_
      refine k_tn ?_
      refine cw_norm [(6, .pointer (some ⟨b7, 0, none⟩)), (11, .pointer (some ⟨b34, 0, none⟩)), (12, .map (some b62)), (13, .func (.func 32) #[] #[.pointer (some ⟨b18, 0, none⟩)]), (14, .slice aoS nS cS), (16, .pointer (some ⟨b82, 0, none⟩)), (31, .slice am ms.length cm), (32, .int .i64 (((ms.length : Nat) : Int))), (33, .int .i64 ((i : Int)))] ⟨rfl, rfl, rfl, rfl, rfl, rfl, rfl, rfl, rfl, trivial⟩ (fun ρn92 => ?_)
      refine cw_seq ?_
      refine cw_seq ?_
      refine cw_region rfl ?_
      refine rl (o_move (v := .map (some b62)) rfl ?_) rfl
      refine rl (o_field rfl fa56_0 ?_) rfl
      refine rl (o_loadB (v := .int .i64 (x9.car)) rfl hB87 tyS3 rfl ?_) rfl
      refine rl (o_lookupM mt72 rfl rfl (wf64 (by omega) (by omega)) hM ?_) rfl
      refine rl (o_add64 (a := (cntC (ms.take i)) x9.car) (b := 1) rfl rfl (by omega) (by omega) ?_) rfl
      refine rl0 (o_mapUpdM mt72 rfl rfl rfl (wf64 (by omega) (by omega)) (wf64 (by omega) (by omega)) hM (by omega) (fun w93 hk94 hM95 => ?_)) rfl
      replace hK := hK.later hk94 (fun i hi hS => by have h1 : i = b62 := hS; omega)
      replace hB6 := hB6.upM hM hk94
      replace hB12 := hB12.upM hM hk94
      replace hB23 := hB23.upM hM hk94
      replace hB39 := hB39.upM hM hk94
      replace hB87 := hB87.upM hM hk94
      replace hT := hT.kp hk94 (fun h => by have h2 : (0 : Nat) = b62 := h; omega)
      replace hR0 := hR0.upM hM hk94 (by decide)
      replace hR1 := hR1.upM hM hk94 (by decide)
      replace hMs := hMs.upM hM hk94 (by decide)
      replace hL := hL.upM hM hk94 (by decide)
      replace hTr_w15 := hTr_w15.trans (hk94.mono (fun _ _ _ => trivial))
      replace hTl := hTl.trans (hk94.mono (fun _ _ _ => trivial))
      replace hO := own_upM hO hM hk94
      replace hStp := own_upM hStp hM hk94
      replace hM : OwnM Tryd.prog 3 3 w93 b62 (i + 1) (cntC (ms.take (i + 1))) := hM95.congr (Nat.le_refl _) (cnt_step hxe)
      refine rl_nil ?_
      refine k_tn ?_
      refine cw_norm [(6, .pointer (some ⟨b7, 0, none⟩)), (11, .pointer (some ⟨b34, 0, none⟩)), (12, .map (some b62)), (13, .func (.func 32) #[] #[.pointer (some ⟨b18, 0, none⟩)]), (14, .slice aoS nS cS), (16, .pointer (some ⟨b82, 0, none⟩)), (31, .slice am ms.length cm), (32, .int .i64 (((ms.length : Nat) : Int))), (33, .int .i64 ((i : Int)))] ⟨rfl, rfl, rfl, rfl, rfl, rfl, rfl, rfl, rfl, trivial⟩ (fun ρn96 => ?_)
      refine cw_seq ?_
      refine cw_region rfl ?_
      refine rl (o_move (v := .map (some b62)) rfl ?_) rfl
      refine rl (o_field rfl fa56_0 ?_) rfl
      refine rl (o_loadB (v := .int .i64 (x9.car)) rfl hB87 tyS3 rfl ?_) rfl
      refine rl (o_lookupM mt72 rfl rfl (wf64 (by omega) (by omega)) hM ?_) rfl
      refine rl (o_gtr rfl rfl ?_) rfl
      refine rl (o_move (v := .bool (decide (1 < (cntC (ms.take (i + 1))) x9.car))) rfl ?_) rfl
      by_cases h97 : 1 < (cntC (ms.take (i + 1))) x9.car
      · skip
        refine rlo ?_ (want_f rfl (decide_eq_true h97) (by decide))
        refine rlo ?_ (want_f rfl (decide_eq_true h97) (by decide))
        refine rlo ?_ (want_f rfl (decide_eq_true h97) (by decide))
        refine rl (o_pickT (v := .bool (true)) rfl (decide_eq_true h97) rfl ?_) rfl
        refine rl (o_move (v := .bool (true)) rfl ?_) rfl
        refine rlo ?_ (want_f rfl (rfl) (by decide))
        refine rlo ?_ (want_f rfl (rfl) (by decide))
        refine rlo ?_ (want_f rfl (rfl) (by decide))
        refine rl (o_pickT (v := .bool (true)) rfl (rfl) rfl ?_) rfl
        refine rl_nil ?_
        refine k_tn ?_
        refine cw_norm [(6, .pointer (some ⟨b7, 0, none⟩)), (11, .pointer (some ⟨b34, 0, none⟩)), (12, .map (some b62)), (13, .func (.func 32) #[] #[.pointer (some ⟨b18, 0, none⟩)]), (14, .slice aoS nS cS), (16, .pointer (some ⟨b82, 0, none⟩)), (31, .slice am ms.length cm), (32, .int .i64 (((ms.length : Nat) : Int))), (33, .int .i64 ((i : Int))), (56, .bool (true))] ⟨rfl, rfl, rfl, rfl, rfl, rfl, rfl, rfl, rfl, rfl, trivial⟩ (fun ρn98 => ?_)
        refine cw_condT rfl ?_
        refine cw_exit ?_
        refine k_te ?_
        refine k_bh ?_
        refine k_tn ?_
        refine cw_norm [(6, .pointer (some ⟨b7, 0, none⟩)), (11, .pointer (some ⟨b34, 0, none⟩)), (12, .map (some b62)), (13, .func (.func 32) #[] #[.pointer (some ⟨b18, 0, none⟩)]), (14, .slice aoS nS cS), (31, .slice am ms.length cm), (32, .int .i64 (((ms.length : Nat) : Int))), (33, .int .i64 ((i : Int)))] ⟨rfl, rfl, rfl, rfl, rfl, rfl, rfl, rfl, trivial⟩ (fun ρn99 => ?_)
        have hag : (agN lw.l (min (max bg 0) 1048576) ms (i + 1)) = (agN lw.l (min (max bg 0) 1048576) ms i) := by rw [agN_succ hxe, agStep, ← take_snoc hxe, if_pos (by omega)]
        refine cw_region rfl ?_
        refine rl (o_add64 (a := (i : Int)) (b := 1) rfl rfl (by omega) (by omega) ?_) rfl
        refine rl (o_move (v := .int .i64 ((i : Int) + 1)) rfl ?_) rfl
        refine rl_nil ?_
        refine k_tn ?_
        refine ⟨_, ?_, _, i + 1, nO, nS, aoO, aoS, cO, cS, upds_eq _ _ ⟨rfl, rfl, rfl, rfl, rfl, rfl, rfl, rfl, trivial⟩, rfl, (by omega), (by rw [hag]; first | exact hnO | simp; omega), (by rw [hag]; first | exact hnS | simp; omega), hK, hB6, hB12, hB23, hB39, hT, hR0, hR1, hMs, hL, hTr_w15, hTl, (by rw [hag]; first | exact hO | simpa [encP] using hO), (by rw [hag]; first | exact hStp | simpa [encI] using hStp), hM⟩
        omega
      · skip
        refine rl (o_field rfl fa56_0 ?_) (want_t rfl (decide_eq_false h97))
        refine rl (o_loadB (v := .int .i64 (x9.car)) rfl hB87 tyS3 rfl ?_) (want_t rfl (decide_eq_false h97))
        refine rl (o_lss rfl rfl ?_) (want_t rfl (decide_eq_false h97))
        refine rl (o_pickF (v := .bool (decide (x9.car < 0))) rfl (decide_eq_false h97) rfl ?_) rfl
        refine rl (o_move (v := .bool (decide (x9.car < 0))) rfl ?_) rfl
        by_cases h100 : x9.car < 0
        · skip
          refine rlo ?_ (want_f rfl (decide_eq_true h100) (by decide))
          refine rlo ?_ (want_f rfl (decide_eq_true h100) (by decide))
          refine rlo ?_ (want_f rfl (decide_eq_true h100) (by decide))
          refine rl (o_pickT (v := .bool (true)) rfl (decide_eq_true h100) rfl ?_) rfl
          refine rl_nil ?_
          refine k_tn ?_
          refine cw_norm [(6, .pointer (some ⟨b7, 0, none⟩)), (11, .pointer (some ⟨b34, 0, none⟩)), (12, .map (some b62)), (13, .func (.func 32) #[] #[.pointer (some ⟨b18, 0, none⟩)]), (14, .slice aoS nS cS), (16, .pointer (some ⟨b82, 0, none⟩)), (31, .slice am ms.length cm), (32, .int .i64 (((ms.length : Nat) : Int))), (33, .int .i64 ((i : Int))), (56, .bool (true))] ⟨rfl, rfl, rfl, rfl, rfl, rfl, rfl, rfl, rfl, rfl, trivial⟩ (fun ρn101 => ?_)
          refine cw_condT rfl ?_
          refine cw_exit ?_
          refine k_te ?_
          refine k_bh ?_
          refine k_tn ?_
          refine cw_norm [(6, .pointer (some ⟨b7, 0, none⟩)), (11, .pointer (some ⟨b34, 0, none⟩)), (12, .map (some b62)), (13, .func (.func 32) #[] #[.pointer (some ⟨b18, 0, none⟩)]), (14, .slice aoS nS cS), (31, .slice am ms.length cm), (32, .int .i64 (((ms.length : Nat) : Int))), (33, .int .i64 ((i : Int)))] ⟨rfl, rfl, rfl, rfl, rfl, rfl, rfl, rfl, trivial⟩ (fun ρn102 => ?_)
          have hag : (agN lw.l (min (max bg 0) 1048576) ms (i + 1)) = (agN lw.l (min (max bg 0) 1048576) ms i) := by rw [agN_succ hxe, agStep, ← take_snoc hxe, if_pos (by omega)]
          refine cw_region rfl ?_
          refine rl (o_add64 (a := (i : Int)) (b := 1) rfl rfl (by omega) (by omega) ?_) rfl
          refine rl (o_move (v := .int .i64 ((i : Int) + 1)) rfl ?_) rfl
          refine rl_nil ?_
          refine k_tn ?_
          refine ⟨_, ?_, _, i + 1, nO, nS, aoO, aoS, cO, cS, upds_eq _ _ ⟨rfl, rfl, rfl, rfl, rfl, rfl, rfl, rfl, trivial⟩, rfl, (by omega), (by rw [hag]; first | exact hnO | simp; omega), (by rw [hag]; first | exact hnS | simp; omega), hK, hB6, hB12, hB23, hB39, hT, hR0, hR1, hMs, hL, hTr_w15, hTl, (by rw [hag]; first | exact hO | simpa [encP] using hO), (by rw [hag]; first | exact hStp | simpa [encI] using hStp), hM⟩
          omega
        · skip
          refine rl (o_field rfl fa56_0 ?_) (want_t rfl (decide_eq_false h100))
          refine rl (o_loadB (v := .int .i64 (x9.car)) rfl hB87 tyS3 rfl ?_) (want_t rfl (decide_eq_false h100))
          refine rl (o_geq rfl rfl ?_) (want_t rfl (decide_eq_false h100))
          refine rl (o_pickF (v := .bool (decide (64 ≤ x9.car))) rfl (decide_eq_false h100) rfl ?_) rfl
          refine rl_nil ?_
          refine k_tn ?_
          refine cw_norm [(6, .pointer (some ⟨b7, 0, none⟩)), (11, .pointer (some ⟨b34, 0, none⟩)), (12, .map (some b62)), (13, .func (.func 32) #[] #[.pointer (some ⟨b18, 0, none⟩)]), (14, .slice aoS nS cS), (16, .pointer (some ⟨b82, 0, none⟩)), (31, .slice am ms.length cm), (32, .int .i64 (((ms.length : Nat) : Int))), (33, .int .i64 ((i : Int))), (56, .bool (decide (64 ≤ x9.car)))] ⟨rfl, rfl, rfl, rfl, rfl, rfl, rfl, rfl, rfl, rfl, trivial⟩ (fun ρn103 => ?_)
          refine cw_if rfl (fun h104 => ?_) (fun h104 => ?_)
          · skip
            refine cw_exit ?_
            refine k_te ?_
            refine k_bh ?_
            refine k_tn ?_
            refine cw_norm [(6, .pointer (some ⟨b7, 0, none⟩)), (11, .pointer (some ⟨b34, 0, none⟩)), (12, .map (some b62)), (13, .func (.func 32) #[] #[.pointer (some ⟨b18, 0, none⟩)]), (14, .slice aoS nS cS), (31, .slice am ms.length cm), (32, .int .i64 (((ms.length : Nat) : Int))), (33, .int .i64 ((i : Int)))] ⟨rfl, rfl, rfl, rfl, rfl, rfl, rfl, rfl, trivial⟩ (fun ρn105 => ?_)
            have hag : (agN lw.l (min (max bg 0) 1048576) ms (i + 1)) = (agN lw.l (min (max bg 0) 1048576) ms i) := by rw [agN_succ hxe, agStep, ← take_snoc hxe, if_pos (by omega)]
            refine cw_region rfl ?_
            refine rl (o_add64 (a := (i : Int)) (b := 1) rfl rfl (by omega) (by omega) ?_) rfl
            refine rl (o_move (v := .int .i64 ((i : Int) + 1)) rfl ?_) rfl
            refine rl_nil ?_
            refine k_tn ?_
            refine ⟨_, ?_, _, i + 1, nO, nS, aoO, aoS, cO, cS, upds_eq _ _ ⟨rfl, rfl, rfl, rfl, rfl, rfl, rfl, rfl, trivial⟩, rfl, (by omega), (by rw [hag]; first | exact hnO | simp; omega), (by rw [hag]; first | exact hnS | simp; omega), hK, hB6, hB12, hB23, hB39, hT, hR0, hR1, hMs, hL, hTr_w15, hTl, (by rw [hag]; first | exact hO | simpa [encP] using hO), (by rw [hag]; first | exact hStp | simpa [encI] using hStp), hM⟩
            omega
          · skip
            refine cw_skip ?_
            refine k_tn ?_
            refine cw_norm [(6, .pointer (some ⟨b7, 0, none⟩)), (11, .pointer (some ⟨b34, 0, none⟩)), (12, .map (some b62)), (13, .func (.func 32) #[] #[.pointer (some ⟨b18, 0, none⟩)]), (14, .slice aoS nS cS), (16, .pointer (some ⟨b82, 0, none⟩)), (31, .slice am ms.length cm), (32, .int .i64 (((ms.length : Nat) : Int))), (33, .int .i64 ((i : Int)))] ⟨rfl, rfl, rfl, rfl, rfl, rfl, rfl, rfl, rfl, trivial⟩ (fun ρn106 => ?_)
            refine cw_seq ?_
            refine cw_region rfl ?_
            refine rl (o_move (v := .func (.func 32) #[] #[.pointer (some ⟨b18, 0, none⟩)]) rfl ?_) rfl
            refine rl (o_loadBA (ds := [.int .i64 (x9.car), .int .i64 (x9.peak)]) rfl hB87 tyA56 rfl rfl ?_) rfl
            refine rl (o_callDyn (caps := [.pointer (some ⟨b18, 0, none⟩)]) rfl (peak_ok x9.car x9.peak lw.budget lw.margin lw.credit _ _ _ lw.l _ _ rfl (by omega) hL hB23) Tryd.call32 (fun v107 w108 hk109 hv110 => ?_)) rfl
            have hl_b1_w108 := hB6.lt
            have hl_b7_w108 := hB12.lt
            have hl_b18_w108 := hB23.lt
            have hl_b34_w108 := hB39.lt
            have hl_b82_w108 := hB87.lt
            have hs_w108 := hK.size
            have hsk_w108 := hk109.size
            obtain rfl := hv110
            replace hK := hK.trans (Kp.ext hk109)
            replace hB6 := hB6.ext hk109
            replace hB12 := hB12.ext hk109
            replace hB23 := hB23.ext hk109
            replace hB39 := hB39.ext hk109
            replace hB87 := hB87.ext hk109
            replace hT := hT.ext hk109
            replace hR0 := hR0.ext hk109
            replace hR1 := hR1.ext hk109
            replace hMs := hMs.ext hk109
            replace hL := hL.ext hk109
            replace hTr_w15 := hTr_w15.trans (Kp.ext hk109)
            replace hTl := hTl.trans (Kp.ext hk109)
            replace hO := own_kp hO hk109 (fun _ _ _ x => x)
            replace hStp := own_kp hStp hk109 (fun _ _ _ x => x)
            replace hM := hM.ext hk109
            refine rl (o_assign (v := .int .i64 (nOf lw.l x9)) rfl ?_) rfl
            refine rl_nil ?_
            refine k_tn ?_
            refine cw_norm [(6, .pointer (some ⟨b7, 0, none⟩)), (11, .pointer (some ⟨b34, 0, none⟩)), (12, .map (some b62)), (13, .func (.func 32) #[] #[.pointer (some ⟨b18, 0, none⟩)]), (14, .slice aoS nS cS), (16, .pointer (some ⟨b82, 0, none⟩)), (17, .int .i64 (nOf lw.l x9)), (31, .slice am ms.length cm), (32, .int .i64 (((ms.length : Nat) : Int))), (33, .int .i64 ((i : Int)))] ⟨rfl, rfl, rfl, rfl, rfl, rfl, rfl, rfl, rfl, rfl, trivial⟩ (fun ρn111 => ?_)
            refine cw_seq ?_
            have hRo := Rd.of_ownF hO (fun _ => rfl) hnO
            obtain ⟨nf0, nf1, _⟩ := nOf_range lw.l x9
            have ht_hTr_w15_d2 := hTr_w15.size
            have ht_hTl_d2 := hTl.size
            have hl_b1_d2 := hB6.lt
            have hl_b7_d2 := hB12.lt
            have hl_b18_d2 := hB23.lt
            have hl_b34_d2 := hB39.lt
            have hl_b82_d2 := hB87.lt
            refine cw_norm [(6, .pointer (some ⟨b7, 0, none⟩)), (11, .pointer (some ⟨b34, 0, none⟩)), (12, .map (some b62)), (13, .func (.func 32) #[] #[.pointer (some ⟨b18, 0, none⟩)]), (14, .slice aoS nS cS), (16, .pointer (some ⟨b82, 0, none⟩)), (17, .int .i64 (nOf lw.l x9)), (31, .slice am ms.length cm), (32, .int .i64 (((ms.length : Nat) : Int))), (33, .int .i64 ((i : Int)))] ⟨rfl, rfl, rfl, rfl, rfl, rfl, rfl, rfl, rfl, rfl, trivial⟩ (fun ρr117 => ?_)
            have hsr2 := hK.size
            refine cw_drawnK (fun _ => False) (fun _ _ _ => False) 7 [.val (.agg #[.int .i64 ((min (max bg 0) 1048576)), .int .i64 (lw.margin), .int .i64 (0), .slice aoO nO cO]), .val (.int .i64 (psum (agN lw.l (min (max bg 0) 1048576) ms i).1)), .val (.int .i64 (nOf lw.l x9)), .val (.int .i64 ((psum (agN lw.l (min (max bg 0) 1048576) ms i).1) + (nOf lw.l x9))), .val (.pointer (some ⟨b34, 0, none⟩)), .val (.int .i64 ((min (max bg 0) 1048576)))] [.val (.agg #[.int .i64 ((min (max bg 0) 1048576)), .int .i64 (lw.margin), .int .i64 (0), .slice aoO nO cO]), .val (.int .i64 (psum (agN lw.l (min (max bg 0) 1048576) ms i).1)), .val (.int .i64 (nOf lw.l x9)), .val (.int .i64 ((psum (agN lw.l (min (max bg 0) 1048576) ms i).1) + (nOf lw.l x9))), .val (.pointer (some ⟨b34, 0, none⟩)), .val (.int .i64 ((min (max bg 0) 1048576)))] [[], [0], [], [0, 1, 2], [], [4], [0, 1, 2, 3, 4, 5]] 6 mixed (by kernel_rfl) (fun _ _ _ _ _ h => h) ⟨upK_val, upK_val, upK_val, upK_val, upK_val, upK_val, trivial⟩ ⟨⟨⟨⟨⟨⟨trivial, ?_⟩, ?_⟩, ?_⟩, ?_⟩, ?_⟩, ?_⟩ (fun w118 vs119 lo120 hi121 hE122 hkn123 hap124 => ?_)
            · refine oblK_post rfl rfl (fun w118k vs lo hi hE hkn hap => ?_)
              have hEs := hE.size
              replace hK := hK.trans (Kp.ext hE)
              replace hB6 := hB6.ext hE
              replace hB12 := hB12.ext hE
              replace hB23 := hB23.ext hE
              replace hB39 := hB39.ext hE
              replace hB87 := hB87.ext hE
              replace hT := hT.ext hE
              replace hR0 := hR0.ext hE
              replace hR1 := hR1.ext hE
              replace hMs := hMs.ext hE
              replace hL := hL.ext hE
              replace hTr_w15 := hTr_w15.trans (Kp.ext hE)
              replace hTl := hTl.trans (Kp.ext hE)
              replace hO := own_kp hO hE (fun _ _ _ x => x)
              replace hStp := own_kp hStp hE (fun _ _ _ x => x)
              replace hM := hM.ext hE
              replace hRo := hRo.ext hE
              refine oblK_n rfl ?_
              refine opk_norm [(11, .pointer (some ⟨b34, 0, none⟩))] ⟨rfl, trivial⟩ (fun ρq => ?_)
              refine o_loadBA (ds := [.int .i64 ((min (max bg 0) 1048576)), .int .i64 (lw.margin), .int .i64 (0), .slice aoO nO cO]) rfl hB39 tyA32 rfl rfl ?_
              exact ⟨Kp.refl _ _, rfl⟩
            · refine oblK_post rfl rfl (fun w118k vs lo hi hE hkn hap => ?_)
              have hEs := hE.size
              replace hK := hK.trans (Kp.ext hE)
              replace hB6 := hB6.ext hE
              replace hB12 := hB12.ext hE
              replace hB23 := hB23.ext hE
              replace hB39 := hB39.ext hE
              replace hB87 := hB87.ext hE
              replace hT := hT.ext hE
              replace hR0 := hR0.ext hE
              replace hR1 := hR1.ext hE
              replace hMs := hMs.ext hE
              replace hL := hL.ext hE
              replace hTr_w15 := hTr_w15.trans (Kp.ext hE)
              replace hTl := hTl.trans (Kp.ext hE)
              replace hO := own_kp hO hE (fun _ _ _ x => x)
              replace hStp := own_kp hStp hE (fun _ _ _ x => x)
              replace hM := hM.ext hE
              replace hRo := hRo.ext hE
              refine oblK_n rfl ?_
              refine opk_norm [(60, .agg #[.int .i64 ((min (max bg 0) 1048576)), .int .i64 (lw.margin), .int .i64 (0), .slice aoO nO cO])] ⟨rfl, trivial⟩ (fun ρq => ?_)
              refine o_call (lsum_ok _ _ _ _ _ (agN lw.l (min (max bg 0) 1048576) ms i).1 _ _ hnO (by omega) hRo) Tryd.call20 (fun v125 w126 hk127 hv128 => ?_)
              have hl_b1_w126 := hB6.lt
              have hl_b7_w126 := hB12.lt
              have hl_b18_w126 := hB23.lt
              have hl_b34_w126 := hB39.lt
              have hl_b82_w126 := hB87.lt
              have hs_w126 := hK.size
              have hsk_w126 := hk127.size
              obtain rfl := hv128
              replace hK := hK.trans (Kp.ext hk127)
              replace hB6 := hB6.ext hk127
              replace hB12 := hB12.ext hk127
              replace hB23 := hB23.ext hk127
              replace hB39 := hB39.ext hk127
              replace hB87 := hB87.ext hk127
              replace hT := hT.ext hk127
              replace hR0 := hR0.ext hk127
              replace hR1 := hR1.ext hk127
              replace hMs := hMs.ext hk127
              replace hL := hL.ext hk127
              replace hTr_w15 := hTr_w15.trans (Kp.ext hk127)
              replace hTl := hTl.trans (Kp.ext hk127)
              replace hO := own_kp hO hk127 (fun _ _ _ x => x)
              replace hStp := own_kp hStp hk127 (fun _ _ _ x => x)
              replace hM := hM.ext hk127
              replace hRo := hRo.ext hk127
              exact ⟨hk127, rfl⟩
            · refine oblK_post rfl rfl (fun w118k vs lo hi hE hkn hap => ?_)
              have hEs := hE.size
              replace hK := hK.trans (Kp.ext hE)
              replace hB6 := hB6.ext hE
              replace hB12 := hB12.ext hE
              replace hB23 := hB23.ext hE
              replace hB39 := hB39.ext hE
              replace hB87 := hB87.ext hE
              replace hT := hT.ext hE
              replace hR0 := hR0.ext hE
              replace hR1 := hR1.ext hE
              replace hMs := hMs.ext hE
              replace hL := hL.ext hE
              replace hTr_w15 := hTr_w15.trans (Kp.ext hE)
              replace hTl := hTl.trans (Kp.ext hE)
              replace hO := own_kp hO hE (fun _ _ _ x => x)
              replace hStp := own_kp hStp hE (fun _ _ _ x => x)
              replace hM := hM.ext hE
              replace hRo := hRo.ext hE
              refine oblK_n rfl ?_
              refine opk_norm [(17, .int .i64 (nOf lw.l x9))] ⟨rfl, trivial⟩ (fun ρq => ?_)
              refine o_move (v := .int .i64 (nOf lw.l x9)) rfl ?_
              exact ⟨Kp.refl _ _, rfl⟩
            · refine oblK_post rfl rfl (fun w118k vs lo hi hE hkn hap => ?_)
              have hEs := hE.size
              replace hK := hK.trans (Kp.ext hE)
              replace hB6 := hB6.ext hE
              replace hB12 := hB12.ext hE
              replace hB23 := hB23.ext hE
              replace hB39 := hB39.ext hE
              replace hB87 := hB87.ext hE
              replace hT := hT.ext hE
              replace hR0 := hR0.ext hE
              replace hR1 := hR1.ext hE
              replace hMs := hMs.ext hE
              replace hL := hL.ext hE
              replace hTr_w15 := hTr_w15.trans (Kp.ext hE)
              replace hTl := hTl.trans (Kp.ext hE)
              replace hO := own_kp hO hE (fun _ _ _ x => x)
              replace hStp := own_kp hStp hE (fun _ _ _ x => x)
              replace hM := hM.ext hE
              replace hRo := hRo.ext hE
              refine oblK_n rfl ?_
              refine opk_norm [(61, .int .i64 (psum (agN lw.l (min (max bg 0) 1048576) ms i).1)), (62, .int .i64 (nOf lw.l x9))] ⟨rfl, rfl, trivial⟩ (fun ρq => ?_)
              refine o_add64 (a := psum (agN lw.l (min (max bg 0) 1048576) ms i).1) (b := nOf lw.l x9) rfl rfl (by omega) (by omega) ?_
              exact ⟨Kp.refl _ _, rfl⟩
            · refine oblK_post rfl rfl (fun w118k vs lo hi hE hkn hap => ?_)
              have hEs := hE.size
              replace hK := hK.trans (Kp.ext hE)
              replace hB6 := hB6.ext hE
              replace hB12 := hB12.ext hE
              replace hB23 := hB23.ext hE
              replace hB39 := hB39.ext hE
              replace hB87 := hB87.ext hE
              replace hT := hT.ext hE
              replace hR0 := hR0.ext hE
              replace hR1 := hR1.ext hE
              replace hMs := hMs.ext hE
              replace hL := hL.ext hE
              replace hTr_w15 := hTr_w15.trans (Kp.ext hE)
              replace hTl := hTl.trans (Kp.ext hE)
              replace hO := own_kp hO hE (fun _ _ _ x => x)
              replace hStp := own_kp hStp hE (fun _ _ _ x => x)
              replace hM := hM.ext hE
              replace hRo := hRo.ext hE
              refine oblK_n rfl ?_
              refine opk_norm [(11, .pointer (some ⟨b34, 0, none⟩))] ⟨rfl, trivial⟩ (fun ρq => ?_)
              refine o_field rfl fa32_0 ?_
              exact ⟨Kp.refl _ _, rfl⟩
            · refine oblK_post rfl rfl (fun w118k vs lo hi hE hkn hap => ?_)
              have hEs := hE.size
              replace hK := hK.trans (Kp.ext hE)
              replace hB6 := hB6.ext hE
              replace hB12 := hB12.ext hE
              replace hB23 := hB23.ext hE
              replace hB39 := hB39.ext hE
              replace hB87 := hB87.ext hE
              replace hT := hT.ext hE
              replace hR0 := hR0.ext hE
              replace hR1 := hR1.ext hE
              replace hMs := hMs.ext hE
              replace hL := hL.ext hE
              replace hTr_w15 := hTr_w15.trans (Kp.ext hE)
              replace hTl := hTl.trans (Kp.ext hE)
              replace hO := own_kp hO hE (fun _ _ _ x => x)
              replace hStp := own_kp hStp hE (fun _ _ _ x => x)
              replace hM := hM.ext hE
              replace hRo := hRo.ext hE
              refine oblK_n rfl ?_
              refine opk_norm [(64, .pointer (some ⟨b34, 0, none⟩))] ⟨rfl, trivial⟩ (fun ρq => ?_)
              refine o_loadB (v := .int .i64 ((min (max bg 0) 1048576))) rfl hB39 tyS3 rfl ?_
              exact ⟨Kp.refl _ _, rfl⟩
            have hsE2 := hE122.size
            replace hK := hK.trans (Kp.ext hE122)
            replace hB6 := hB6.ext hE122
            replace hB12 := hB12.ext hE122
            replace hB23 := hB23.ext hE122
            replace hB39 := hB39.ext hE122
            replace hB87 := hB87.ext hE122
            replace hT := hT.ext hE122
            replace hR0 := hR0.ext hE122
            replace hR1 := hR1.ext hE122
            replace hMs := hMs.ext hE122
            replace hL := hL.ext hE122
            replace hTr_w15 := hTr_w15.trans (Kp.ext hE122)
            replace hTl := hTl.trans (Kp.ext hE122)
            replace hO := own_kp hO hE122 (fun _ _ _ x => x)
            replace hStp := own_kp hStp hE122 (fun _ _ _ x => x)
            replace hM := hM.ext hE122
            replace hRo := hRo.ext hE122
            refine rl_norm [(6, .pointer (some ⟨b7, 0, none⟩)), (11, .pointer (some ⟨b34, 0, none⟩)), (12, .map (some b62)), (13, .func (.func 32) #[] #[.pointer (some ⟨b18, 0, none⟩)]), (14, .slice aoS nS cS), (16, .pointer (some ⟨b82, 0, none⟩)), (17, .int .i64 (nOf lw.l x9)), (31, .slice am ms.length cm), (32, .int .i64 (((ms.length : Nat) : Int))), (33, .int .i64 ((i : Int))), (63, .int .i64 ((psum (agN lw.l (min (max bg 0) 1048576) ms i).1) + (nOf lw.l x9))), (65, .int .i64 ((min (max bg 0) 1048576)))] ⟨rfl, rfl, rfl, rfl, rfl, rfl, rfl, rfl, rfl, rfl, rfl, rfl, trivial⟩ (fun ρr117q => ?_)
            refine rl (o_gtr rfl rfl ?_) rfl
            refine rl_nil ?_
            refine cw_if rfl (fun h129 => ?_) (fun h129 => ?_)
            · skip
              refine cw_seq ?_
              refine cw_region rfl ?_
              refine rl (o_move (v := .slice aoS nS cS) rfl ?_) rfl
              refine rl (o_field rfl fa56_0 ?_) rfl
              refine rl (o_loadB (v := .int .i64 (x9.car)) rfl hB87 tyS3 rfl ?_) rfl
              refine rl (o_buildSlice (vs := [.int .i64 (x9.car)]) (n := 1) rfl Tryd.underlying51 elt3 rfl rfl (Nat.le_of_ble_eq_true rfl) (fun b130 w131 hb132 hz133 hk134 hB135 => ?_)) rfl
              replace hB135 : Box w131 b130 [.int .i64 (x9.car)] 3 := hB135
              have hs_b130 := hK.size
              have hl_b1_b130 := hB6.lt
              have hl_b7_b130 := hB12.lt
              have hl_b18_b130 := hB23.lt
              have hl_b34_b130 := hB39.lt
              have hl_b82_b130 := hB87.lt
              have ht_hTr_w15_b130 := hTr_w15.size
              have ht_hTl_b130 := hTl.size
              replace hK := hK.trans (Kp.ext hk134)
              replace hB6 := hB6.ext hk134
              replace hB12 := hB12.ext hk134
              replace hB23 := hB23.ext hk134
              replace hB39 := hB39.ext hk134
              replace hB87 := hB87.ext hk134
              replace hT := hT.ext hk134
              replace hR0 := hR0.ext hk134
              replace hR1 := hR1.ext hk134
              replace hMs := hMs.ext hk134
              replace hL := hL.ext hk134
              replace hTr_w15 := hTr_w15.trans (Kp.ext hk134)
              replace hTl := hTl.trans (Kp.ext hk134)
              replace hO := own_kp hO hk134 (fun _ _ _ x => x)
              replace hStp := own_kp hStp hk134 (fun _ _ _ x => x)
              replace hM := hM.ext hk134
              have htk_q141 := hTr_w15.size
              have htk_q142 := hTl.size
              refine rl (o_append (news := [.int .i64 (x9.car)]) rfl rfl Tryd.underlying51 elt3 hStp (hB135.at_ 0 1) rfl (by simp [one]) (by omega) (by omega) (by have := hK.size; omega) (fun ao136 c137 w138 hk139 hO140 => ?_)) rfl
              replace hK := hK.later hk139 (fun i hi hS => by have := (own_lt hStp i hS).1; omega)
              clear hB135
              replace hB6 := hB6.grown hStp (by decide) hk139
              replace hB12 := hB12.grown hStp (by decide) hk139
              replace hB23 := hB23.grown hStp (by decide) hk139
              replace hB39 := hB39.grown hStp (by decide) hk139
              replace hB87 := hB87.grown hStp (by decide) hk139
              replace hT := hT.kp hk139 (fun h => by have := (own_lt hStp 0 h).1; omega)
              replace hR0 := hR0.kp hk139 (fun i _ hF hS => by have h1 : i < w.heap.size := hF; have h2 := (own_lt hStp i hS).1; omega)
              replace hR1 := hR1.kp hk139 (fun i _ hF hS => by have h1 : i < w.heap.size := hF; have h2 := (own_lt hStp i hS).1; omega)
              replace hMs := hMs.kp hk139 (fun i _ hF hS => by have h1 : i < w.heap.size := hF; have h2 := (own_lt hStp i hS).1; omega)
              replace hL := hL.kp hk139 (fun i _ hF hS => by have h1 : w8.heap.size ≤ i ∧ i < w15.heap.size := hF; have h2 := (own_lt hStp i hS).1; omega)
              replace hTr_w15 := hTr_w15.trans (hk139.mono (fun _ _ _ => trivial))
              replace hTl := hTl.trans (hk139.mono (fun _ _ _ => trivial))
              replace hO := own_kpB hO hk139 (own_ne hO hStp (by decide))
              replace hM := hM.grown hStp hk139
              have hStpn : w138.ownsRow w63.heap.size 3 1 (.slice ao136 (nS + 1) c137) (nS + 1) (((agN lw.l (min (max bg 0) 1048576) ms i).2.flatMap encI) ++ [.int .i64 (x9.car)]) := by exact hO140
              have hStp := hStpn; clear hStpn
              refine rl (o_assign (v := .slice ao136 (nS + 1) c137) rfl ?_) rfl
              refine rl_nil ?_
              refine k_tn ?_
              refine cw_norm [(6, .pointer (some ⟨b7, 0, none⟩)), (11, .pointer (some ⟨b34, 0, none⟩)), (12, .map (some b62)), (13, .func (.func 32) #[] #[.pointer (some ⟨b18, 0, none⟩)]), (14, .slice ao136 (nS + 1) c137), (31, .slice am ms.length cm), (32, .int .i64 (((ms.length : Nat) : Int))), (33, .int .i64 ((i : Int)))] ⟨rfl, rfl, rfl, rfl, rfl, rfl, rfl, rfl, trivial⟩ (fun ρn143 => ?_)
              refine cw_exit ?_
              refine k_te ?_
              refine k_bh ?_
              refine k_tn ?_
              refine cw_norm [(6, .pointer (some ⟨b7, 0, none⟩)), (11, .pointer (some ⟨b34, 0, none⟩)), (12, .map (some b62)), (13, .func (.func 32) #[] #[.pointer (some ⟨b18, 0, none⟩)]), (14, .slice ao136 (nS + 1) c137), (31, .slice am ms.length cm), (32, .int .i64 (((ms.length : Nat) : Int))), (33, .int .i64 ((i : Int)))] ⟨rfl, rfl, rfl, rfl, rfl, rfl, rfl, rfl, trivial⟩ (fun ρn144 => ?_)
              have hag : (agN lw.l (min (max bg 0) 1048576) ms (i + 1)) = ((agN lw.l (min (max bg 0) 1048576) ms i).1, (agN lw.l (min (max bg 0) 1048576) ms i).2 ++ [x9.car]) := by rw [agN_succ hxe, agStep, ← take_snoc hxe, if_neg (by omega), if_pos (by omega)]
              refine cw_region rfl ?_
              refine rl (o_add64 (a := (i : Int)) (b := 1) rfl rfl (by omega) (by omega) ?_) rfl
              refine rl (o_move (v := .int .i64 ((i : Int) + 1)) rfl ?_) rfl
              refine rl_nil ?_
              refine k_tn ?_
              refine ⟨_, ?_, _, i + 1, nO, nS + 1, aoO, ao136, cO, c137, upds_eq _ _ ⟨rfl, rfl, rfl, rfl, rfl, rfl, rfl, rfl, trivial⟩, rfl, (by omega), (by rw [hag]; first | exact hnO | simp; omega), (by rw [hag]; first | exact hnS | simp; omega), hK, hB6, hB12, hB23, hB39, hT, hR0, hR1, hMs, hL, hTr_w15, hTl, (by rw [hag]; first | exact hO | simpa [encP] using hO), (by rw [hag]; first | exact hStp | simpa [encI] using hStp), hM⟩
              omega
            · skip
              refine cw_skip ?_
              refine k_tn ?_
              refine cw_norm [(6, .pointer (some ⟨b7, 0, none⟩)), (11, .pointer (some ⟨b34, 0, none⟩)), (12, .map (some b62)), (13, .func (.func 32) #[] #[.pointer (some ⟨b18, 0, none⟩)]), (14, .slice aoS nS cS), (16, .pointer (some ⟨b82, 0, none⟩)), (17, .int .i64 (nOf lw.l x9)), (31, .slice am ms.length cm), (32, .int .i64 (((ms.length : Nat) : Int))), (33, .int .i64 ((i : Int)))] ⟨rfl, rfl, rfl, rfl, rfl, rfl, rfl, rfl, rfl, rfl, trivial⟩ (fun ρn145 => ?_)
              refine cw_region rfl ?_
              refine rl (o_field rfl fa32_3 ?_) rfl
              refine rl (o_loadB (v := .slice aoO nO cO) rfl hB39 tyS30 rfl ?_) rfl
              refine rl (o_field rfl fa56_0 ?_) rfl
              refine rl (o_loadB (v := .int .i64 (x9.car)) rfl hB87 tyS3 rfl ?_) rfl
              refine rl (o_move (v := .int .i64 (nOf lw.l x9)) rfl ?_) rfl
              refine rl (o_build (cs := [.int .i64 (x9.car), .int .i64 (nOf lw.l x9)]) bt57 rfl ?_) rfl
              refine rl (o_buildSlice (vs := [.agg #[.int .i64 (x9.car), .int .i64 (nOf lw.l x9)]]) (n := 1) rfl Tryd.underlying30 elt57 rfl rfl (Nat.le_of_ble_eq_true rfl) (fun b146 w147 hb148 hz149 hk150 hB151 => ?_)) rfl
              replace hB151 : Box w147 b146 [.int .i64 (x9.car), .int .i64 (nOf lw.l x9)] 57 := hB151
              have hs_b146 := hK.size
              have hl_b1_b146 := hB6.lt
              have hl_b7_b146 := hB12.lt
              have hl_b18_b146 := hB23.lt
              have hl_b34_b146 := hB39.lt
              have hl_b82_b146 := hB87.lt
              have ht_hTr_w15_b146 := hTr_w15.size
              have ht_hTl_b146 := hTl.size
              replace hK := hK.trans (Kp.ext hk150)
              replace hB6 := hB6.ext hk150
              replace hB12 := hB12.ext hk150
              replace hB23 := hB23.ext hk150
              replace hB39 := hB39.ext hk150
              replace hB87 := hB87.ext hk150
              replace hT := hT.ext hk150
              replace hR0 := hR0.ext hk150
              replace hR1 := hR1.ext hk150
              replace hMs := hMs.ext hk150
              replace hL := hL.ext hk150
              replace hTr_w15 := hTr_w15.trans (Kp.ext hk150)
              replace hTl := hTl.trans (Kp.ext hk150)
              replace hO := own_kp hO hk150 (fun _ _ _ x => x)
              replace hStp := own_kp hStp hk150 (fun _ _ _ x => x)
              replace hM := hM.ext hk150
              have htk_q157 := hTr_w15.size
              have htk_q158 := hTl.size
              refine rl (o_append (news := [.int .i64 (x9.car), .int .i64 (nOf lw.l x9)]) rfl rfl Tryd.underlying30 elt57 hO (hB151.at_ 0 2) rfl (by simp [one]) (by omega) (by omega) (by have := hK.size; omega) (fun ao152 c153 w154 hk155 hO156 => ?_)) rfl
              replace hK := hK.later hk155 (fun i hi hS => by have := (own_lt hO i hS).1; omega)
              clear hB151
              replace hB6 := hB6.grown hO (by decide) hk155
              replace hB12 := hB12.grown hO (by decide) hk155
              replace hB23 := hB23.grown hO (by decide) hk155
              replace hB39 := hB39.grown hO (by decide) hk155
              replace hB87 := hB87.grown hO (by decide) hk155
              replace hT := hT.kp hk155 (fun h => by have := (own_lt hO 0 h).1; omega)
              replace hR0 := hR0.kp hk155 (fun i _ hF hS => by have h1 : i < w.heap.size := hF; have h2 := (own_lt hO i hS).1; omega)
              replace hR1 := hR1.kp hk155 (fun i _ hF hS => by have h1 : i < w.heap.size := hF; have h2 := (own_lt hO i hS).1; omega)
              replace hMs := hMs.kp hk155 (fun i _ hF hS => by have h1 : i < w.heap.size := hF; have h2 := (own_lt hO i hS).1; omega)
              replace hL := hL.kp hk155 (fun i _ hF hS => by have h1 : w8.heap.size ≤ i ∧ i < w15.heap.size := hF; have h2 := (own_lt hO i hS).1; omega)
              replace hTr_w15 := hTr_w15.trans (hk155.mono (fun _ _ _ => trivial))
              replace hTl := hTl.trans (hk155.mono (fun _ _ _ => trivial))
              replace hStp := own_kpB hStp hk155 (own_ne hStp hO (by decide))
              replace hM := hM.grown hO hk155
              have hOn : w154.ownsRow w63.heap.size 57 2 (.slice ao152 (nO + 1) c153) (nO + 1) (((agN lw.l (min (max bg 0) 1048576) ms i).1.flatMap encP) ++ [.int .i64 (x9.car), .int .i64 (nOf lw.l x9)]) := by exact hO156
              have hO := hOn; clear hOn
              refine rl (o_field rfl fa32_3 ?_) rfl
              refine rl0 (o_store1 (v := .slice ao152 (nO + 1) c153) rfl rfl hB39 tyS30 rfl (Nat.le_of_ble_eq_true rfl) (fun w159 hk160 hz161 hB162 => ?_)) rfl
              replace hB162 : Box w159 b34 [.int .i64 ((min (max bg 0) 1048576)), .int .i64 (lw.margin), .int .i64 (0), .slice ao152 (nO + 1) c153] 32 := hB162
              replace hK := hK.later hk160 (fun i hi hS => by have h1 : i = b34 := hS; omega)
              replace hB6 := hB6.kp hk160 (by show ¬ b1 = b34; omega)
              replace hB12 := hB12.kp hk160 (by show ¬ b7 = b34; omega)
              replace hB23 := hB23.kp hk160 (by show ¬ b18 = b34; omega)
              replace hB87 := hB87.kp hk160 (by show ¬ b82 = b34; omega)
              replace hT := hT.kp hk160 (fun h => by have h2 : (0 : Nat) = b34 := h; omega)
              replace hR0 := hR0.kp hk160 (fun i _ hF hS => by have h1 : i < w.heap.size := hF; have h2 : i = b34 := hS; omega)
              replace hR1 := hR1.kp hk160 (fun i _ hF hS => by have h1 : i < w.heap.size := hF; have h2 : i = b34 := hS; omega)
              replace hMs := hMs.kp hk160 (fun i _ hF hS => by have h1 : i < w.heap.size := hF; have h2 : i = b34 := hS; omega)
              replace hL := hL.kp hk160 (fun i _ hF hS => by have h1 : w8.heap.size ≤ i ∧ i < w15.heap.size := hF; have h2 : i = b34 := hS; omega)
              replace hTr_w15 := hTr_w15.trans (hk160.mono (fun _ _ _ => trivial))
              replace hTl := hTl.trans (hk160.mono (fun _ _ _ => trivial))
              replace hStp := own_other hStp hB39 (by decide) hk160
              replace hM := hM.set hk160 hB39
              replace hO := own_other hO hB39 (by decide) hk160
              replace hB39 := hB162
              refine rl_nil ?_
              refine k_bn ?_
              refine k_tn ?_
              refine cw_norm [(6, .pointer (some ⟨b7, 0, none⟩)), (11, .pointer (some ⟨b34, 0, none⟩)), (12, .map (some b62)), (13, .func (.func 32) #[] #[.pointer (some ⟨b18, 0, none⟩)]), (14, .slice aoS nS cS), (31, .slice am ms.length cm), (32, .int .i64 (((ms.length : Nat) : Int))), (33, .int .i64 ((i : Int)))] ⟨rfl, rfl, rfl, rfl, rfl, rfl, rfl, rfl, trivial⟩ (fun ρn163 => ?_)
              have hag : (agN lw.l (min (max bg 0) 1048576) ms (i + 1)) = ((agN lw.l (min (max bg 0) 1048576) ms i).1 ++ [⟨x9.car, nOf lw.l x9⟩], (agN lw.l (min (max bg 0) 1048576) ms i).2) := by rw [agN_succ hxe, agStep, ← take_snoc hxe, if_neg (by omega), if_neg (by omega)]
              refine cw_region rfl ?_
              refine rl (o_add64 (a := (i : Int)) (b := 1) rfl rfl (by omega) (by omega) ?_) rfl
              refine rl (o_move (v := .int .i64 ((i : Int) + 1)) rfl ?_) rfl
              refine rl_nil ?_
              refine k_tn ?_
              refine ⟨_, ?_, _, i + 1, nO + 1, nS, ao152, aoS, c153, cS, upds_eq _ _ ⟨rfl, rfl, rfl, rfl, rfl, rfl, rfl, rfl, trivial⟩, rfl, (by omega), (by rw [hag]; first | exact hnO | simp; omega), (by rw [hag]; first | exact hnS | simp; omega), hK, hB6, hB12, hB23, hB39, hT, hR0, hR1, hMs, hL, hTr_w15, hTl, (by rw [hag]; first | exact hO | simpa [encP] using hO), (by rw [hag]; first | exact hStp | simpa [encI] using hStp), hM⟩
              omega
    · skip
      refine cw_exit ?_
      refine k_te ?_
      refine k_te ?_
      refine k_bh ?_
      refine k_tn ?_
      refine cw_norm [(6, .pointer (some ⟨b7, 0, none⟩)), (11, .pointer (some ⟨b34, 0, none⟩)), (14, .slice aoS nS cS)] ⟨rfl, rfl, rfl, trivial⟩ (fun ρn164 => ?_)
      refine cw_reg rfl ?_
      refine rl (o_loadBA (ds := [.int .i64 ((min (max bg 0) 1048576)), .int .i64 (lw.margin), .int .i64 (0), .slice aoO nO cO]) rfl hB39 tyA32 rfl rfl ?_) rfl
      refine rl (o_move (v := .slice aoS nS cS) rfl ?_) rfl
      refine rl0 (o_storeA (vs := [.int .i64 ((min (max bg 0) 1048576)), .int .i64 (lw.margin), .int .i64 (0), .slice aoO nO cO]) rfl rfl hB12 tyA32 rfl rfl (Nat.le_of_ble_eq_true rfl) (fun w165 hk166 hz167 hB168 => ?_)) rfl
      replace hB168 : Box w165 b7 [.int .i64 ((min (max bg 0) 1048576)), .int .i64 (lw.margin), .int .i64 (0), .slice aoO nO cO] 32 := hB168
      replace hK := hK.later hk166 (fun i hi hS => by have h1 : i = b7 := hS; omega)
      replace hB6 := hB6.kp hk166 (by show ¬ b1 = b7; omega)
      replace hB23 := hB23.kp hk166 (by show ¬ b18 = b7; omega)
      replace hB39 := hB39.kp hk166 (by show ¬ b34 = b7; omega)
      replace hT := hT.kp hk166 (fun h => by have h2 : (0 : Nat) = b7 := h; omega)
      replace hR0 := hR0.kp hk166 (fun i _ hF hS => by have h1 : i < w.heap.size := hF; have h2 : i = b7 := hS; omega)
      replace hR1 := hR1.kp hk166 (fun i _ hF hS => by have h1 : i < w.heap.size := hF; have h2 : i = b7 := hS; omega)
      replace hMs := hMs.kp hk166 (fun i _ hF hS => by have h1 : i < w.heap.size := hF; have h2 : i = b7 := hS; omega)
      replace hL := hL.kp hk166 (fun i _ hF hS => by have h1 : w8.heap.size ≤ i ∧ i < w15.heap.size := hF; have h2 : i = b7 := hS; omega)
      replace hTr_w15 := hTr_w15.trans (hk166.mono (fun _ _ _ => trivial))
      replace hTl := hTl.trans (hk166.mono (fun _ _ _ => trivial))
      replace hO := own_other hO hB12 (by decide) hk166
      replace hStp := own_other hStp hB12 (by decide) hk166
      replace hM := hM.set hk166 hB12
      replace hB12 := hB168
      refine rl (o_assign (v := .slice aoS nS cS) rfl ?_) rfl
      refine rl_nil ?_
      refine cw_ret ?_
      refine ret_intro (v := .tuple #[.agg #[.int .i64 ((min (max bg 0) 1048576)), .int .i64 (lw.margin), .int .i64 (0), .slice aoO nO cO], .slice aoS nS cS]) (res_ok (vs := [.agg #[.int .i64 ((min (max bg 0) 1048576)), .int .i64 (lw.margin), .int .i64 (0), .slice aoO nO cO], .slice aoS nS cS]) rfl ⟨⟨_, rfl, run_loadA tyA32 rfl (hB12.at_ 0 4)⟩, rfl, trivial⟩) hK ?_
      obtain rfl : i = ms.length := by omega
      exact ⟨_, _, _, _, _, _, rfl, hnO, hnS, (Rd.of_ownF hO (fun _ => rfl) hnO).mono (fun b _ h => Nat.le_trans hswl h), (Rd.of_ownF hStp (fun _ => rfl) hnS).mono (fun b _ h => Nat.le_trans hswl h)⟩
end Go.Proofs.YtcmlklnelipacaaDoor

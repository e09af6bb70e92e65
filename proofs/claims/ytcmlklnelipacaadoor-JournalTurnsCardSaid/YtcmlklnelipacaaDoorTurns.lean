import Derived.Test.YtcmlklnelipacaaDoorNone
import Derived.Test.YtcmlklnelipacaaDoorLedIn
set_option linter.unusedVariables false
set_option linter.unusedSimpArgs false
set_option maxRecDepth 100000
namespace Go.Proofs.YtcmlklnelipacaaDoor
open Go.RowKit Plain

/-- a place in which write q stands; nothing where none was -/
def Held (s : List Int) (q : Int) : Prop := (q ≤ 0 ∧ s = []) ∨ (1 ≤ q ∧ ∃ l : Ledger, check l = true ∧ l.l.length ≤ 80 ∧ s = jput crcOf l q)
theorem Held.isB {s : List Int} {q : Int} (h : Held s q) : isB s := by
  rcases h with ⟨_, rfl⟩ | ⟨_, l, _, _, rfl⟩
  · exact isB_nil
  · exact isB_jput _ _
theorem Held.len {s : List Int} {q : Int} (h : Held s q) : s.length ≤ 1000 := by
  rcases h with ⟨_, rfl⟩ | ⟨_, l, _, hl, rfl⟩
  · simp
  · have := jput_len8 l q; omega
theorem Held.step {s : List Int} {q : Int} (h : Held s q) (hq : q ≤ 100000) {i : Int} (hp : q % 2 = i) (l0 : Ledger) (m : Int) (hm : 0 ≤ m) : (jstep crcOf i s (l0, m)).2 = max m q := by
  rcases h with ⟨h0, rfl⟩ | ⟨h1, l, hc, hl, rfl⟩
  · have hn := jget_short isB_nil (by decide)
    rw [jstep_f (fun h => hn h.1)]
    show m = _; omega
  · have hj := jget_jput crcOf l q hc (by omega) (by omega) (by omega)
    by_cases hlt : m < q
    · rw [jstep_t (by rw [hj]) (by rw [hj]; exact hp) (by rw [hj]; exact hlt), hj]
      show q = _; omega
    · rw [jstep_f (fun h => hlt (by have := h.2.2; rw [hj] at this; exact this))]
      show m = _; omega
theorem held_load {s0 s1 wa : List Int} {q0 q1 la : Int} {wr : Bool} (h0 : Held s0 q0) (h1 : Held s1 q1) (e0 : q0 % 2 = 0) (e1 : q1 % 2 = 1) (b0 : q0 ≤ 100000) (b1 : q1 ≤ 100000) : (jload crcOf ⟨s0, s1, la, wa, wr⟩).2 = max (max 0 q0) q1 := by
  have g0 := h0.step b0 e0 .zero 0 (by decide)
  unfold jload
  have : jstep crcOf 0 s0 (.zero, 0) = ((jstep crcOf 0 s0 (.zero, 0)).1, max 0 q0) := by rw [← g0]
  dsimp only
  rw [this]
  exact h1.step b1 e1 _ _ (by omega)
theorem held_new1 {s0 wa : List Int} {q la : Int} {wr : Bool} {l : Ledger} (h0 : Held s0 q) (e0 : q % 2 = 0) (hq : 0 ≤ q ∧ q ≤ 1000) (hc : check l = true) (hl : l.l.length ≤ 80) : jload crcOf ⟨s0, jput crcOf l (q + 1), la, wa, wr⟩ = ({ l with credit := 0 }, q + 1) := by
  have g0 := h0.step (by omega) e0 .zero 0 (by decide)
  have hj := jget_jput crcOf l (q + 1) hc (by omega) (by omega) (by omega)
  unfold jload
  have : jstep crcOf 0 s0 (.zero, 0) = ((jstep crcOf 0 s0 (.zero, 0)).1, max 0 q) := by rw [← g0]
  dsimp only
  rw [this, jstep_t (by rw [hj]) (by rw [hj]; show (q + 1) % 2 = 1; omega) (by rw [hj]; show max 0 q < q + 1; omega), hj]
theorem held_new0 {s1 wa : List Int} {q la : Int} {wr : Bool} {l : Ledger} (h1 : Held s1 q) (e1 : q % 2 = 1) (hq : 0 ≤ q ∧ q ≤ 1000) (hc : check l = true) (hl : l.l.length ≤ 80) : jload crcOf ⟨jput crcOf l (q + 1), s1, la, wa, wr⟩ = ({ l with credit := 0 }, q + 1) := by
  have hj := jget_jput crcOf l (q + 1) hc (by omega) (by omega) (by omega)
  unfold jload
  dsimp only
  have e : jstep crcOf 0 (jput crcOf l (q + 1)) (.zero, 0) = ({ l with credit := 0 }, q + 1) := by
    rw [jstep_t (by rw [hj]) (by rw [hj]; show (q + 1) % 2 = 0; omega) (by rw [hj]; show 0 < q + 1; omega), hj]
  rw [e]
  rcases h1 with ⟨h0, rfl⟩ | ⟨h1, l2, hc2, hl2, rfl⟩
  · have hn := jget_short isB_nil (by decide)
    exact jstep_f (fun h => hn h.1)
  · have hj2 := jget_jput crcOf l2 q hc2 (by omega) (by omega) (by omega)
    refine jstep_f (fun h => ?_)
    have := h.2.2
    rw [hj2] at this
    have h3 : q + 1 < q := this
    omega
theorem jput_to {F : Nat → Prop} (b m c : Int) (ao : Option Addr) (cp : Nat) (ps : List Permit) (sq : Int) (X : List Int) (n0 : Nat) (w : World) (hX : jput crcOf ⟨b, m, c, ps⟩ sq = X) (hl_n0 : n0 = ps.length) (hn : n0 ≤ 1000) (hp : ∀ p ∈ ps, 0 ≤ p.car ∧ p.car < 4294967296 ∧ 0 ≤ p.peak ∧ p.peak < 4294967296) (hb : 0 ≤ b ∧ b < 4294967296) (hm : 0 ≤ m ∧ m < 4294967296) (hq : 0 ≤ sq ∧ sq < 18446744073709551616) (hT : Tab w) (hR : Rd F w 2 (.slice ao n0 cp) (ps.map encP)) :
    Calls Tryd.prog 15 #[.agg #[.int .i64 (b), .int .i64 (m), .int .i64 (c), .slice ao n0 cp], .int .u64 (sq)] w (Ret Non w fun v w' => ∃ (ao2 : Option Addr) (c2 : Nat), v = .slice ao2 X.length c2 ∧ Rd (fun b => w.heap.size ≤ b) w' 1 (.slice ao2 X.length c2) (X.map encB)) := by
  subst hX
  refine Ret.weaken (jput_ok b m c ao cp ps sq n0 w hl_n0 hn hp hb hm hq hT hR) ?_
  rintro v w' ⟨n, ao2, c2, rfl, hn', hO⟩
  subst hn'
  exact ⟨ao2, c2, rfl, Rd.of_ownF hO (fun _ => rfl) rfl⟩
theorem same_to {F G : Nat → Prop} (q1 m1 c1 : Int) (a1 a2 : Option Addr) (k1 k2 : Nat) (ps : List Permit) (n1 n2 : Nat) (w : World) (hl_n2 : n2 = ps.length) (hl_n1 : n1 = ps.length) (hn : n1 ≤ 1000000) (hR : Rd F w 2 (.slice a1 n1 k1) (ps.map encP)) (hS : Rd G w 2 (.slice a2 n2 k2) (ps.map encP)) :
    Calls Tryd.prog 14 #[.agg #[.int .i64 (q1), .int .i64 (m1), .int .i64 (c1), .slice a1 n1 k1], .agg #[.int .i64 (q1), .int .i64 (m1), .int .i64 (c1), .slice a2 n2 k2]] w (Ret Non w fun v w' => v = .bool true) :=
  Ret.weaken (same_ok q1 m1 c1 q1 m1 c1 a1 a2 k1 k2 ps ps n1 n2 w hl_n2 hl_n1 hn hR hS) (fun v w' h => by rw [h]; simp)
set_option maxHeartbeats 16000000 in
theorem turns_ok {F : Nat → Prop} (al : Option Addr) (cl : Nat) (ls : List LedIn) (n0 : Nat) (w : World) (hl_n0 : n0 = ls.length) (hT : Tab w) (hLs : Rd F w 4 (.slice al n0 cl) (ls.map encLedIn)) (hG : ∀ l ∈ ls, Rd (fun _ => True) w 2 (.slice l.s.ao l.s.xs.length l.s.c) (l.s.xs.map encP)) :
    Calls Tryd.prog 3 #[.slice al n0 cl] w (Ret Non w fun v w' => v = .bool true) := by
  have hK := Kp.refl Non w
  subst hl_n0
  replace hLs := hLs.old
  replace hG := fun r hr => (hG r hr).old
  have h00 := hT.1
  refine calls_cw Tryd.func3 rfl (Nat.le_of_ble_eq_true rfl) ?_
  refine cw_seq ?_
  refine cw_region rfl ?_
  refine rl (o_assign (v := .bool (false)) rfl ?_) rfl
  refine rl_nil ?_
  refine k_tn ?_
  refine cw_norm [(0, .slice al ls.length cl)] ⟨rfl, trivial⟩ (fun ρn1 => ?_)
  refine cw_seq ?_
  refine cw_region rfl ?_
  refine rl (o_call (awake16_ok _ hT) Tryd.call6 (fun v2 w3 hk4 hv5 => ?_)) rfl
  have hs_w3 := hK.size
  have hsk_w3 := hk4.size
  obtain rfl := hv5
  replace hK := hK.trans (Kp.ext hk4)
  replace hT := hT.ext hk4
  replace hLs := hLs.ext hk4
  replace hG := fun r hr => (hG r hr).ext hk4
  refine rl (o_assign (v := .bool (true)) rfl ?_) rfl
  refine rl_nil ?_
  refine k_tn ?_
  refine cw_norm [(0, .slice al ls.length cl), (3, .bool (true))] ⟨rfl, rfl, trivial⟩ (fun ρn6 => ?_)
  refine cw_seq ?_
  refine cw_seq ?_
  refine cw_region rfl ?_
  refine rl (o_move (v := .bool (true)) rfl ?_) rfl
  refine rl (o_not rfl ?_) rfl
  refine rl_nil ?_
  refine k_tn ?_
  refine cw_norm [(0, .slice al ls.length cl), (16, .bool (false))] ⟨rfl, rfl, trivial⟩ (fun ρn7 => ?_)
  refine cw_condF rfl ?_
  refine cw_skip ?_
  refine k_tn ?_
  refine cw_norm [(0, .slice al ls.length cl)] ⟨rfl, trivial⟩ (fun ρn8 => ?_)
  refine cw_seq ?_
  refine cw_seq ?_
  refine cw_region rfl ?_
  refine rl (o_move (v := .slice al ls.length cl) rfl ?_) rfl
  refine rl (o_len rfl Tryd.underlying22 ?_) rfl
  refine rl (o_gtr rfl rfl ?_) rfl
  refine rl_nil ?_
  refine k_tn ?_
  refine cw_norm [(0, .slice al ls.length cl), (19, .bool (decide (20 < ((ls.length : Nat) : Int))))] ⟨rfl, rfl, trivial⟩ (fun ρn9 => ?_)
  refine cw_if rfl (fun h10 => ?_) (fun h10 => ?_)
  · skip
    refine cw_reg rfl ?_
    refine rl (o_assign (v := .bool (true)) rfl ?_) rfl
    refine rl_nil ?_
    refine cw_ret ?_
    refine k_tr ?_
    refine ret_intro (v := .bool (true)) (res_ok (vs := [.bool (true)]) rfl ⟨rfl, trivial⟩) hK ?_
    exact rfl
  · skip
    refine cw_skip ?_
    refine k_tn ?_
    refine cw_norm [(0, .slice al ls.length cl)] ⟨rfl, trivial⟩ (fun ρn11 => ?_)
    refine cw_seq ?_
    refine cw_region rfl ?_
    refine rl (o_call (from_ok (F0 := Non) (F1 := Non) none none 0 0 [] [] _ _ _ rfl rfl (by decide) (by decide) (Rd.nil _ _) (Rd.nil _ _)) Tryd.call7 (fun v12 w13 hk14 hv15 => ?_)) rfl
    have hs_w13 := hK.size
    have hsk_w13 := hk14.size
    obtain ⟨aaf, abf, caf, cbf, rfl, hF0f, hF1f⟩ := hv15
    replace hK := hK.trans (Kp.ext hk14)
    replace hT := hT.ext hk14
    replace hLs := hLs.ext hk14
    replace hG := fun r hr => (hG r hr).ext hk14
    replace hF0f := hF0f.mono (G := fun b => w3.heap.size ≤ b ∧ b < w13.heap.size) (fun b hb h => ⟨h, hb⟩)
    replace hF1f := hF1f.mono (G := fun b => w3.heap.size ≤ b ∧ b < w13.heap.size) (fun b hb h => ⟨h, hb⟩)
    have hTr_w13 := Kp.refl (fun _ => True) w13
    refine rl (o_alloc Tryd.zeroValue27 (fun b16 w17 hb18 hz19 hk20 hB21 => ?_)) rfl
    replace hB21 : Box w17 b16 [.slice none 0 0, .slice none 0 0, .int .i64 (0), .slice none 0 0, .bool (false)] 27 := hB21
    have hs_b16 := hK.size
    have ht_hTr_w13_b16 := hTr_w13.size
    replace hK := hK.trans (Kp.ext hk20)
    replace hT := hT.ext hk20
    replace hLs := hLs.ext hk20
    replace hG := fun r hr => (hG r hr).ext hk20
    replace hF0f := hF0f.ext hk20
    replace hF1f := hF1f.ext hk20
    replace hTr_w13 := hTr_w13.trans (Kp.ext hk20)
    refine rl0 (o_storeA (vs := [.slice aaf 0 caf, .slice abf 0 cbf, .int .i64 (0), .slice none 0 0, .bool (false)]) rfl rfl hB21 tyA27 rfl rfl (Nat.le_of_ble_eq_true rfl) (fun w22 hk23 hz24 hB25 => ?_)) rfl
    replace hB25 : Box w22 b16 [.slice aaf 0 caf, .slice abf 0 cbf, .int .i64 (0), .slice none 0 0, .bool (false)] 27 := hB25
    replace hK := hK.later hk23 (fun i hi hS => by have h1 : i = b16 := hS; omega)
    replace hT := hT.kp hk23 (fun h => by have h2 : (0 : Nat) = b16 := h; omega)
    replace hLs := hLs.kp hk23 (fun i _ hF hS => by have h1 : i < w.heap.size := hF; have h2 : i = b16 := hS; omega)
    replace hG := fun r hr => (hG r hr).kp hk23 (fun i _ hF hS => by have h1 : i < w.heap.size := hF; have h2 : i = b16 := hS; omega)
    replace hF0f := hF0f.kp hk23 (fun i _ hF hS => by have h1 : w3.heap.size ≤ i ∧ i < w13.heap.size := hF; have h2 : i = b16 := hS; omega)
    replace hF1f := hF1f.kp hk23 (fun i _ hF hS => by have h1 : w3.heap.size ≤ i ∧ i < w13.heap.size := hF; have h2 : i = b16 := hS; omega)
    replace hTr_w13 := hTr_w13.trans (hk23.mono (fun _ _ _ => trivial))
    replace hB21 := hB25
    refine rl_nil ?_
    refine k_tn ?_
    refine cw_norm [(0, .slice al ls.length cl), (4, .pointer (some ⟨b16, 0, none⟩))] ⟨rfl, rfl, trivial⟩ (fun ρn26 => ?_)
    refine cw_seq ?_
    refine cw_seq ?_
    refine cw_region rfl ?_
    refine rl (o_assign (v := .int .i64 (0)) rfl ?_) rfl
    refine rl_nil ?_
    refine k_tn ?_
    refine cw_norm [(0, .slice al ls.length cl), (4, .pointer (some ⟨b16, 0, none⟩)), (5, .int .i64 (0))] ⟨rfl, rfl, rfl, trivial⟩ (fun ρn27 => ?_)
    refine cw_block ?_
    refine cw_loop (fun mm ρ' w' => ∃ (ρ0 : Env) (i : Nat) (a0 a1 aw : Option Addr) (p0 p1 pw : Nat) (s0 s1 wa : List Int) (la : Int) (wr : Bool), (ρ' = upds ρ0 [(0, .slice al ls.length cl), (4, .pointer (some ⟨b16, 0, none⟩)), (5, .int .i64 ((i : Int)))]) ∧ (mm = ls.length - i) ∧ (i ≤ ls.length) ∧ ((i % 2 = 0 ∧ Held s0 (i : Int) ∧ Held s1 ((i : Int) - 1)) ∨ (i % 2 = 1 ∧ Held s1 (i : Int) ∧ Held s0 ((i : Int) - 1))) ∧ (Kp Non w w') ∧ (Box w' b16 [.slice a0 s0.length p0, .slice a1 s1.length p1, .int .i64 (la), .slice aw wa.length pw, .bool (wr)] 27) ∧ (Tab w') ∧ (Rd (fun b => b < w.heap.size) w' 4 (.slice al ls.length cl) (ls.map encLedIn)) ∧ (∀ l ∈ ls, Rd (fun b => b < w.heap.size) w' 2 (.slice l.s.ao l.s.xs.length l.s.c) (l.s.xs.map encP)) ∧ (Kp (fun _ => True) w13 w') ∧ (Rd (fun b => b ≠ b16) w' 1 (.slice a0 s0.length p0) ((s0).map encB)) ∧ (Rd (fun b => b ≠ b16) w' 1 (.slice a1 s1.length p1) ((s1).map encB))) (ls.length - (0)) ?_ ?_
    · skip
      exact ⟨_, 0, aaf, abf, none, caf, cbf, 0, [], [], [], 0, false, upds_eq _ _ ⟨rfl, rfl, rfl, trivial⟩, rfl, Nat.zero_le _, (.inl ⟨rfl, .inl ⟨by decide, rfl⟩, .inl ⟨by decide, rfl⟩⟩), hK, hB21, hT, hLs, hG, hTr_w13, (hF0f.mono (fun b hb h => by intro e; omega)), (hF1f.mono (fun b hb h => by intro e; omega))⟩
    · rintro mm ρ1 w28 ⟨ρ0, i, a0, a1, aw, p0, p1, pw, s0, s1, wa, la, wr, rfl, rfl, hi, hheld, hK, hB21, hT, hLs, hG, hTr_w13, hS0, hS1⟩
      refine cw_seq ?_
      refine cw_seq ?_
      replace hS0 : Rd (fun b => b ≠ b16 ∧ b < w28.heap.size) w28 1 (.slice a0 s0.length p0) ((s0).map encB) := hS0.mono (fun b hb h => ⟨h, hb⟩)
      replace hS1 : Rd (fun b => b ≠ b16 ∧ b < w28.heap.size) w28 1 (.slice a1 s1.length p1) ((s1).map encB) := hS1.mono (fun b hb h => ⟨h, hb⟩)
      refine cw_region rfl ?_
      refine rl (o_move (v := .int .i64 ((i : Int))) rfl ?_) rfl
      refine rl (o_move (v := .slice al ls.length cl) rfl ?_) rfl
      refine rl (o_len rfl Tryd.underlying22 ?_) rfl
      refine rl (o_lss rfl rfl ?_) rfl
      refine rl_nil ?_
      refine k_tn ?_
      refine cw_norm [(0, .slice al ls.length cl), (4, .pointer (some ⟨b16, 0, none⟩)), (5, .int .i64 ((i : Int))), (24, .bool (decide ((i : Int) < ((ls.length : Nat) : Int))))] ⟨rfl, rfl, rfl, rfl, trivial⟩ (fun ρn29 => ?_)
      refine cw_if rfl (fun h30 => ?_) (fun h30 => ?_)
      · skip
        refine cw_skip ?_
        refine k_tn ?_
        refine cw_norm [(0, .slice al ls.length cl), (4, .pointer (some ⟨b16, 0, none⟩)), (5, .int .i64 ((i : Int)))] ⟨rfl, rfl, rfl, trivial⟩ (fun ρn31 => ?_)
        refine cw_seq ?_
        refine cw_block ?_
        refine cw_seq ?_
        obtain ⟨b9, o9, x9, hao9, hxe, hA9, hlt_b9, hF_b9⟩ := Rd.getF hLs i (by omega)
        replace hF_b9 : b9 < w.heap.size := hF_b9
        have hRx := hG x9 (List.mem_of_getElem? hxe)
        refine cw_region rfl ?_
        refine rl (o_move (v := .slice al ls.length cl) rfl ?_) rfl
        refine rl (o_move (v := .int .i64 ((i : Int))) rfl ?_) rfl
        refine rl (o_idxAt i rfl rfl Tryd.underlying22 Tryd.sizeOf32 hao9 (by omega) (by omega) ?_) rfl
        refine rl (o_loadA (cs := [.int .i64 (x9.b), .int .i64 (x9.m), .int .i64 (x9.c), .slice x9.s.ao x9.s.xs.length x9.s.c]) rfl tyA32 rfl hA9 ?_) rfl
        refine rl (o_call (few16_ok (F := Non) _ _ _ _ _ x9.s.xs _ _ rfl) Tryd.call8 (fun v38 w39 hk40 hv41 => ?_)) rfl
        have hl_b16_w39 := hB21.lt
        have hs_w39 := hK.size
        have hsk_w39 := hk40.size
        obtain rfl := hv41
        replace hK := hK.trans (Kp.ext hk40)
        replace hB21 := hB21.ext hk40
        replace hT := hT.ext hk40
        replace hLs := hLs.ext hk40
        replace hG := fun r hr => (hG r hr).ext hk40
        replace hTr_w13 := hTr_w13.trans (Kp.ext hk40)
        replace hS0 := hS0.ext hk40
        replace hS1 := hS1.ext hk40
        replace hRx := hRx.ext hk40
        replace hA9 := At.ext hA9 hk40
        refine rl (o_assign (v := .bool (decide (((x9.s.xs.length : Nat) : Int) ≤ 80))) rfl ?_) rfl
        refine rl_nil ?_
        refine k_tn ?_
        refine cw_norm [(0, .slice al ls.length cl), (4, .pointer (some ⟨b16, 0, none⟩)), (5, .int .i64 ((i : Int))), (6, .bool (decide (((x9.s.xs.length : Nat) : Int) ≤ 80)))] ⟨rfl, rfl, rfl, rfl, trivial⟩ (fun ρn42 => ?_)
        refine cw_seq ?_
        refine cw_seq ?_
        obtain ⟨bz43, oz43, yz43, haoz43, hyez43, hAz43, hlt_bz43, hF_bz43⟩ := Rd.getF hLs i (by omega)
        replace hF_bz43 : bz43 < w.heap.size := hF_bz43
        obtain hxy : x9 = yz43 := Option.some.inj (hxe.symm.trans hyez43)
        subst hxy
        refine cw_region rfl ?_
        refine rl (o_move (v := .bool (decide (((x9.s.xs.length : Nat) : Int) ≤ 80))) rfl ?_) rfl
        refine rl (o_notD (q := ((x9.s.xs.length : Nat) : Int) ≤ 80) rfl ?_) rfl
        refine rl (o_move (v := .bool (decide (¬ (((x9.s.xs.length : Nat) : Int) ≤ 80)))) rfl ?_) rfl
        by_cases h44 : ¬ (((x9.s.xs.length : Nat) : Int) ≤ 80)
        · skip
          refine rlo ?_ (want_f rfl (decide_eq_true h44) (by decide))
          refine rlo ?_ (want_f rfl (decide_eq_true h44) (by decide))
          refine rlo ?_ (want_f rfl (decide_eq_true h44) (by decide))
          refine rlo ?_ (want_f rfl (decide_eq_true h44) (by decide))
          refine rlo ?_ (want_f rfl (decide_eq_true h44) (by decide))
          refine rlo ?_ (want_f rfl (decide_eq_true h44) (by decide))
          refine rl (o_pickT (v := .bool (true)) rfl (decide_eq_true h44) rfl ?_) rfl
          refine rl_nil ?_
          refine k_tn ?_
          refine cw_norm [(0, .slice al ls.length cl), (4, .pointer (some ⟨b16, 0, none⟩)), (5, .int .i64 ((i : Int))), (41, .bool (true))] ⟨rfl, rfl, rfl, rfl, trivial⟩ (fun ρn45 => ?_)
          refine cw_condT rfl ?_
          refine cw_reg rfl ?_
          refine rl (o_assign (v := .bool (true)) rfl ?_) rfl
          refine rl_nil ?_
          refine cw_ret ?_
          refine k_tr ?_
          refine k_br ?_
          refine k_tr ?_
          refine k_tr ?_
          refine k_br ?_
          refine k_tr ?_
          refine ret_intro (v := .bool (true)) (res_ok (vs := [.bool (true)]) rfl ⟨rfl, trivial⟩) hK ?_
          exact rfl
        · skip
          refine rl (o_move (v := .slice al ls.length cl) rfl ?_) (want_t rfl (decide_eq_false h44))
          refine rl (o_move (v := .int .i64 ((i : Int))) rfl ?_) (want_t rfl (decide_eq_false h44))
          refine rl (o_idxAt i rfl rfl Tryd.underlying22 Tryd.sizeOf32 haoz43 (by omega) (by omega) ?_) (want_t rfl (decide_eq_false h44))
          refine rl (o_loadA (cs := [.int .i64 (x9.b), .int .i64 (x9.m), .int .i64 (x9.c), .slice x9.s.ao x9.s.xs.length x9.s.c]) rfl tyA32 rfl hAz43 ?_) (want_t rfl (decide_eq_false h44))
          refine rl (o_call (check_ok _ _ _ _ _ x9.s.xs _ _ rfl (by omega) hRx) Tryd.call9 (fun v52 w53 hk54 hv55 => ?_)) (want_t rfl (decide_eq_false h44))
          have hl_b16_w53 := hB21.lt
          have hs_w53 := hK.size
          have hsk_w53 := hk54.size
          obtain rfl := hv55
          replace hK := hK.trans (Kp.ext hk54)
          replace hB21 := hB21.ext hk54
          replace hT := hT.ext hk54
          replace hLs := hLs.ext hk54
          replace hG := fun r hr => (hG r hr).ext hk54
          replace hTr_w13 := hTr_w13.trans (Kp.ext hk54)
          replace hS0 := hS0.ext hk54
          replace hS1 := hS1.ext hk54
          replace hRx := hRx.ext hk54
          replace hA9 := At.ext hA9 hk54
          replace hAz43 := At.ext hAz43 hk54
          refine rl (o_not rfl ?_) (want_t rfl (decide_eq_false h44))
          refine rl (o_pickF (v := .bool (!(check ⟨x9.b, x9.m, x9.c, x9.s.xs⟩))) rfl (decide_eq_false h44) rfl ?_) rfl
          refine rl_nil ?_
          refine k_tn ?_
          refine cw_norm [(0, .slice al ls.length cl), (4, .pointer (some ⟨b16, 0, none⟩)), (5, .int .i64 ((i : Int))), (41, .bool (!(check ⟨x9.b, x9.m, x9.c, x9.s.xs⟩)))] ⟨rfl, rfl, rfl, rfl, trivial⟩ (fun ρn56 => ?_)
          refine cw_cond rfl (fun h57 => ?_) (fun h57 => ?_)
          · skip
            refine cw_reg rfl ?_
            refine rl (o_assign (v := .bool (true)) rfl ?_) rfl
            refine rl_nil ?_
            refine cw_ret ?_
            refine k_tr ?_
            refine k_br ?_
            refine k_tr ?_
            refine k_tr ?_
            refine k_br ?_
            refine k_tr ?_
            refine ret_intro (v := .bool (true)) (res_ok (vs := [.bool (true)]) rfl ⟨rfl, trivial⟩) hK ?_
            exact rfl
          · skip
            refine cw_skip ?_
            refine k_tn ?_
            refine cw_norm [(0, .slice al ls.length cl), (4, .pointer (some ⟨b16, 0, none⟩)), (5, .int .i64 ((i : Int)))] ⟨rfl, rfl, rfl, trivial⟩ (fun ρn58 => ?_)
            rcases hheld with ⟨he, hh0, hh1⟩ | ⟨he, hh1, hh0⟩
            · skip
              have hck : check ⟨x9.b, x9.m, x9.c, x9.s.xs⟩ = true := (by simpa using h57)
              have hl80 : x9.s.xs.length ≤ 80 := by omega
              obtain ⟨hpp, hpb, hpm⟩ := permits_ok hck
              obtain ⟨X1, hX1⟩ : ∃ X, jput crcOf ⟨x9.b, x9.m, x9.c, x9.s.xs⟩ ((i : Int) + 1) = X := ⟨_, rfl⟩
              have hBX : isB X1 := hX1 ▸ isB_jput _ _
              have hNX : X1.length ≤ 1000 := by have := jput_len8 ⟨x9.b, x9.m, x9.c, x9.s.xs⟩ ((i : Int) + 1); rw [hX1] at this; dsimp only at this; omega
              have hN0 := hh0.len
              have hN1 := hh1.len
              have hjl : (jload crcOf ⟨s0, s1, la, wa, wr⟩).2 = (i : Int) := by rw [held_load hh0 hh1 (by omega) (by omega) (by omega) (by omega)]; omega
              have hj1 : jload crcOf ⟨s0, X1, 1, s1, true⟩ = (⟨x9.b, x9.m, 0, x9.s.xs⟩, (i : Int) + 1) := hX1 ▸ held_new1 hh0 (by omega) (by omega) hck hl80
              refine cw_seq ?_
              refine cw_region rfl ?_
              refine rl (o_loadBA (ds := [.slice a0 s0.length p0, .slice a1 s1.length p1, .int .i64 (la), .slice aw wa.length pw, .bool (wr)]) rfl hB21 tyA27 rfl rfl ?_) rfl
              refine rl (o_call (slots_ok (Fw := Non) _ _ _ _ _ _ s0 s1 wa la wr _ _ _ _ rfl rfl rfl (by omega) (by omega) hS0 hS1) Tryd.call10 (fun v59 w60 hk61 hv62 => ?_)) rfl
              have hl_b16_w60 := hB21.lt
              have hs_w60 := hK.size
              have hsk_w60 := hk61.size
              obtain ⟨bsp, as0p, as1p, cs0p, cs1p, rfl, hgsp, hBsp, hS0p, hS1p⟩ := hv62
              replace hK := hK.trans (Kp.ext hk61)
              replace hB21 := hB21.ext hk61
              replace hT := hT.ext hk61
              replace hLs := hLs.ext hk61
              replace hG := fun r hr => (hG r hr).ext hk61
              replace hTr_w13 := hTr_w13.trans (Kp.ext hk61)
              replace hS0 := hS0.ext hk61
              replace hS1 := hS1.ext hk61
              replace hRx := hRx.ext hk61
              replace hA9 := At.ext hA9 hk61
              replace hAz43 := At.ext hAz43 hk61
              replace hS0p := hS0p.mono (G := fun b => w53.heap.size ≤ b ∧ b < w60.heap.size) (fun b hb h => ⟨h, hb⟩)
              replace hS1p := hS1p.mono (G := fun b => w53.heap.size ≤ b ∧ b < w60.heap.size) (fun b hb h => ⟨h, hb⟩)
              have hTr_w60 := Kp.refl (fun _ => True) w60
              refine rl (o_assign (v := .slice ((some ⟨bsp, 0, none⟩)) 2 2) rfl ?_) rfl
              refine rl_nil ?_
              refine k_tn ?_
              refine cw_norm [(0, .slice al ls.length cl), (4, .pointer (some ⟨b16, 0, none⟩)), (5, .int .i64 ((i : Int))), (7, .slice ((some ⟨bsp, 0, none⟩)) 2 2)] ⟨rfl, rfl, rfl, rfl, trivial⟩ (fun ρn63 => ?_)
              obtain ⟨bz64, oz64, yz64, haoz64, hyez64, hAz64, hlt_bz64, hF_bz64⟩ := Rd.getF hLs i (by omega)
              replace hF_bz64 : bz64 < w.heap.size := hF_bz64
              obtain hxy : x9 = yz64 := Option.some.inj (hxe.symm.trans hyez64)
              subst hxy
              have ht_hTr_w13_d1 := hTr_w13.size
              have ht_hTr_w60_d1 := hTr_w60.size
              have hl_b16_d1 := hB21.lt
              have hl_bsp_d1 := hBsp.lt
              refine cw_norm [(0, .slice al ls.length cl), (4, .pointer (some ⟨b16, 0, none⟩)), (5, .int .i64 ((i : Int))), (7, .slice ((some ⟨bsp, 0, none⟩)) 2 2)] ⟨rfl, rfl, rfl, rfl, trivial⟩ (fun ρr71 => ?_)
              have hsr1 := hK.size
              refine cw_drawnK (fun _ => False) 7 [.val (.agg #[.slice a0 s0.length p0, .slice a1 s1.length p1, .int .i64 (la), .slice aw wa.length pw, .bool (wr)]), .val (.slice al ls.length cl), .val (.int .i64 ((i : Int))), .val (.pointer (some ⟨bz64, oz64 + i * 4, none⟩)), .val (.agg #[.int .i64 (x9.b), .int .i64 (x9.m), .int .i64 (x9.c), .slice x9.s.ao x9.s.xs.length x9.s.c])] [.val (.agg #[.slice a0 s0.length p0, .slice a1 s1.length p1, .int .i64 (la), .slice aw wa.length pw, .bool (wr)]), .val (.slice al ls.length cl), .val (.int .i64 ((i : Int))), .val (.pointer (some ⟨bz64, oz64 + i * 4, none⟩)), .val (.agg #[.int .i64 (x9.b), .int .i64 (x9.m), .int .i64 (x9.c), .slice x9.s.ao x9.s.xs.length x9.s.c])] [[], [], [], [1, 2], [1, 2, 3], [0, 1, 2, 3, 4], [0, 1, 2, 3, 4, 5]] 5 mixed (by kernel_rfl) ⟨upK_val, upK_val, upK_val, upK_val, upK_val, trivial⟩ ⟨⟨⟨⟨⟨trivial, ?_⟩, ?_⟩, ?_⟩, ?_⟩, ?_⟩ (fun w72 vs73 lo74 hi75 hE76 hkn77 hap78 => ?_)
              · refine oblK_post rfl rfl (fun w72k vs lo hi hE hkn hap => ?_)
                have hEs := hE.size
                replace hK := hK.trans (Kp.ext hE)
                replace hB21 := hB21.ext hE
                replace hBsp := hBsp.ext hE
                replace hT := hT.ext hE
                replace hLs := hLs.ext hE
                replace hG := fun r hr => (hG r hr).ext hE
                replace hTr_w13 := hTr_w13.trans (Kp.ext hE)
                replace hS0 := hS0.ext hE
                replace hS1 := hS1.ext hE
                replace hRx := hRx.ext hE
                replace hS0p := hS0p.ext hE
                replace hS1p := hS1p.ext hE
                replace hTr_w60 := hTr_w60.trans (Kp.ext hE)
                replace hA9 := At.ext hA9 hE
                replace hAz43 := At.ext hAz43 hE
                replace hAz64 := At.ext hAz64 hE
                refine oblK_n rfl ?_
                refine opk_norm [(4, .pointer (some ⟨b16, 0, none⟩))] ⟨rfl, trivial⟩ (fun ρq => ?_)
                refine o_loadBA (ds := [.slice a0 s0.length p0, .slice a1 s1.length p1, .int .i64 (la), .slice aw wa.length pw, .bool (wr)]) rfl hB21 tyA27 rfl rfl ?_
                exact ⟨Kp.refl _ _, rfl⟩
              · refine oblK_post rfl rfl (fun w72k vs lo hi hE hkn hap => ?_)
                have hEs := hE.size
                replace hK := hK.trans (Kp.ext hE)
                replace hB21 := hB21.ext hE
                replace hBsp := hBsp.ext hE
                replace hT := hT.ext hE
                replace hLs := hLs.ext hE
                replace hG := fun r hr => (hG r hr).ext hE
                replace hTr_w13 := hTr_w13.trans (Kp.ext hE)
                replace hS0 := hS0.ext hE
                replace hS1 := hS1.ext hE
                replace hRx := hRx.ext hE
                replace hS0p := hS0p.ext hE
                replace hS1p := hS1p.ext hE
                replace hTr_w60 := hTr_w60.trans (Kp.ext hE)
                replace hA9 := At.ext hA9 hE
                replace hAz43 := At.ext hAz43 hE
                replace hAz64 := At.ext hAz64 hE
                refine oblK_n rfl ?_
                refine opk_norm [(0, .slice al ls.length cl)] ⟨rfl, trivial⟩ (fun ρq => ?_)
                refine o_move (v := .slice al ls.length cl) rfl ?_
                exact ⟨Kp.refl _ _, rfl⟩
              · refine oblK_post rfl rfl (fun w72k vs lo hi hE hkn hap => ?_)
                have hEs := hE.size
                replace hK := hK.trans (Kp.ext hE)
                replace hB21 := hB21.ext hE
                replace hBsp := hBsp.ext hE
                replace hT := hT.ext hE
                replace hLs := hLs.ext hE
                replace hG := fun r hr => (hG r hr).ext hE
                replace hTr_w13 := hTr_w13.trans (Kp.ext hE)
                replace hS0 := hS0.ext hE
                replace hS1 := hS1.ext hE
                replace hRx := hRx.ext hE
                replace hS0p := hS0p.ext hE
                replace hS1p := hS1p.ext hE
                replace hTr_w60 := hTr_w60.trans (Kp.ext hE)
                replace hA9 := At.ext hA9 hE
                replace hAz43 := At.ext hAz43 hE
                replace hAz64 := At.ext hAz64 hE
                refine oblK_n rfl ?_
                refine opk_norm [(5, .int .i64 ((i : Int)))] ⟨rfl, trivial⟩ (fun ρq => ?_)
                refine o_move (v := .int .i64 ((i : Int))) rfl ?_
                exact ⟨Kp.refl _ _, rfl⟩
              · refine oblK_post rfl rfl (fun w72k vs lo hi hE hkn hap => ?_)
                have hEs := hE.size
                replace hK := hK.trans (Kp.ext hE)
                replace hB21 := hB21.ext hE
                replace hBsp := hBsp.ext hE
                replace hT := hT.ext hE
                replace hLs := hLs.ext hE
                replace hG := fun r hr => (hG r hr).ext hE
                replace hTr_w13 := hTr_w13.trans (Kp.ext hE)
                replace hS0 := hS0.ext hE
                replace hS1 := hS1.ext hE
                replace hRx := hRx.ext hE
                replace hS0p := hS0p.ext hE
                replace hS1p := hS1p.ext hE
                replace hTr_w60 := hTr_w60.trans (Kp.ext hE)
                replace hA9 := At.ext hA9 hE
                replace hAz43 := At.ext hAz43 hE
                replace hAz64 := At.ext hAz64 hE
                refine oblK_n rfl ?_
                refine opk_norm [(45, .slice al ls.length cl), (46, .int .i64 ((i : Int)))] ⟨rfl, rfl, trivial⟩ (fun ρq => ?_)
                refine o_idxAt i rfl rfl Tryd.underlying22 Tryd.sizeOf32 haoz64 (by omega) (by omega) ?_
                exact ⟨Kp.refl _ _, rfl⟩
              · refine oblK_post rfl rfl (fun w72k vs lo hi hE hkn hap => ?_)
                have hEs := hE.size
                replace hK := hK.trans (Kp.ext hE)
                replace hB21 := hB21.ext hE
                replace hBsp := hBsp.ext hE
                replace hT := hT.ext hE
                replace hLs := hLs.ext hE
                replace hG := fun r hr => (hG r hr).ext hE
                replace hTr_w13 := hTr_w13.trans (Kp.ext hE)
                replace hS0 := hS0.ext hE
                replace hS1 := hS1.ext hE
                replace hRx := hRx.ext hE
                replace hS0p := hS0p.ext hE
                replace hS1p := hS1p.ext hE
                replace hTr_w60 := hTr_w60.trans (Kp.ext hE)
                replace hA9 := At.ext hA9 hE
                replace hAz43 := At.ext hAz43 hE
                replace hAz64 := At.ext hAz64 hE
                refine oblK_n rfl ?_
                refine opk_norm [(47, .pointer (some ⟨bz64, oz64 + i * 4, none⟩))] ⟨rfl, trivial⟩ (fun ρq => ?_)
                refine o_loadA (cs := [.int .i64 (x9.b), .int .i64 (x9.m), .int .i64 (x9.c), .slice x9.s.ao x9.s.xs.length x9.s.c]) rfl tyA32 rfl hAz64 ?_
                exact ⟨Kp.refl _ _, rfl⟩
              have hsE1 := hE76.size
              replace hK := hK.trans (Kp.ext hE76)
              replace hB21 := hB21.ext hE76
              replace hBsp := hBsp.ext hE76
              replace hT := hT.ext hE76
              replace hLs := hLs.ext hE76
              replace hG := fun r hr => (hG r hr).ext hE76
              replace hTr_w13 := hTr_w13.trans (Kp.ext hE76)
              replace hS0 := hS0.ext hE76
              replace hS1 := hS1.ext hE76
              replace hRx := hRx.ext hE76
              replace hS0p := hS0p.ext hE76
              replace hS1p := hS1p.ext hE76
              replace hTr_w60 := hTr_w60.trans (Kp.ext hE76)
              replace hA9 := At.ext hA9 hE76
              replace hAz43 := At.ext hAz43 hE76
              replace hAz64 := At.ext hAz64 hE76
              refine rl_norm [(0, .slice al ls.length cl), (4, .pointer (some ⟨b16, 0, none⟩)), (5, .int .i64 ((i : Int))), (7, .slice ((some ⟨bsp, 0, none⟩)) 2 2), (44, .agg #[.slice a0 s0.length p0, .slice a1 s1.length p1, .int .i64 (la), .slice aw wa.length pw, .bool (wr)]), (48, .agg #[.int .i64 (x9.b), .int .i64 (x9.m), .int .i64 (x9.c), .slice x9.s.ao x9.s.xs.length x9.s.c])] ⟨rfl, rfl, rfl, rfl, rfl, rfl, trivial⟩ (fun ρr71q => ?_)
              refine rl (o_call (write1_to _ _ _ _ _ _ s0 s1 wa la wr x9.b x9.m x9.c _ _ x9.s.xs _ _ _ _ ((i : Int) + 1) X1 _ (by rw [hjl]) hX1 (by omega) (by omega) rfl rfl rfl rfl (by omega) (by omega) hh0.isB hh1.isB (by omega) hpp hpb hpm hT hS0 hS1 hRx) Tryd.call11 (fun v85 w86 hk87 hv88 => ?_)) rfl
              have hl_b16_w86 := hB21.lt
              have hl_bsp_w86 := hBsp.lt
              have hs_w86 := hK.size
              have hsk_w86 := hk87.size
              obtain ⟨aw3, cw3, rfl, hP⟩ := hv88
              replace hK := hK.trans (Kp.ext hk87)
              replace hB21 := hB21.ext hk87
              replace hBsp := hBsp.ext hk87
              replace hT := hT.ext hk87
              replace hLs := hLs.ext hk87
              replace hG := fun r hr => (hG r hr).ext hk87
              replace hTr_w13 := hTr_w13.trans (Kp.ext hk87)
              replace hS0 := hS0.ext hk87
              replace hS1 := hS1.ext hk87
              replace hRx := hRx.ext hk87
              replace hS0p := hS0p.ext hk87
              replace hS1p := hS1p.ext hk87
              replace hTr_w60 := hTr_w60.trans (Kp.ext hk87)
              replace hA9 := At.ext hA9 hk87
              replace hAz43 := At.ext hAz43 hk87
              replace hAz64 := At.ext hAz64 hk87
              replace hP := hP.mono (G := fun b => w72.heap.size ≤ b ∧ b < w86.heap.size) (fun b hb h => ⟨h, hb⟩)
              have hTr_w86 := Kp.refl (fun _ => True) w86
              refine rl0 (o_storeA (vs := [.slice a0 s0.length p0, .slice aw3 X1.length cw3, .int .i64 (1), .slice a1 s1.length p1, .bool (true)]) rfl rfl hB21 tyA27 rfl rfl (Nat.le_of_ble_eq_true rfl) (fun w89 hk90 hz91 hB92 => ?_)) rfl
              replace hB92 : Box w89 b16 [.slice a0 s0.length p0, .slice aw3 X1.length cw3, .int .i64 (1), .slice a1 s1.length p1, .bool (true)] 27 := hB92
              replace hK := hK.later hk90 (fun i hi hS => by have h1 : i = b16 := hS; omega)
              replace hBsp := hBsp.kp hk90 (by show ¬ bsp = b16; omega)
              replace hT := hT.kp hk90 (fun h => by have h2 : (0 : Nat) = b16 := h; omega)
              replace hLs := hLs.kp hk90 (fun i _ hF hS => by have h1 : i < w.heap.size := hF; have h2 : i = b16 := hS; omega)
              replace hG := fun r hr => (hG r hr).kp hk90 (fun i _ hF hS => by have h1 : i < w.heap.size := hF; have h2 : i = b16 := hS; omega)
              replace hTr_w13 := hTr_w13.trans (hk90.mono (fun _ _ _ => trivial))
              replace hS0 := hS0.kp hk90 (fun i _ hF hS => by have h1 : i ≠ b16 ∧ i < w28.heap.size := hF; have h2 : i = b16 := hS; omega)
              replace hS1 := hS1.kp hk90 (fun i _ hF hS => by have h1 : i ≠ b16 ∧ i < w28.heap.size := hF; have h2 : i = b16 := hS; omega)
              replace hRx := hRx.kp hk90 (fun i _ hF hS => by have h1 : i < w.heap.size := hF; have h2 : i = b16 := hS; omega)
              replace hS0p := hS0p.kp hk90 (fun i _ hF hS => by have h1 : w53.heap.size ≤ i ∧ i < w60.heap.size := hF; have h2 : i = b16 := hS; omega)
              replace hS1p := hS1p.kp hk90 (fun i _ hF hS => by have h1 : w53.heap.size ≤ i ∧ i < w60.heap.size := hF; have h2 : i = b16 := hS; omega)
              replace hTr_w60 := hTr_w60.trans (hk90.mono (fun _ _ _ => trivial))
              replace hP := hP.kp hk90 (fun i _ hF hS => by have h1 : w72.heap.size ≤ i ∧ i < w86.heap.size := hF; have h2 : i = b16 := hS; omega)
              replace hTr_w86 := hTr_w86.trans (hk90.mono (fun _ _ _ => trivial))
              replace hB21 := hB92
              refine rl_nil ?_
              refine cw_seq ?_
              refine cw_region rfl ?_
              refine rl (o_loadBA (ds := [.slice a0 s0.length p0, .slice aw3 X1.length cw3, .int .i64 (1), .slice a1 s1.length p1, .bool (true)]) rfl hB21 tyA27 rfl rfl ?_) rfl
              refine rl (o_call (slots_ok (Fw := Non) _ _ _ _ _ _ s0 X1 s1 1 true _ _ _ _ rfl rfl rfl (by omega) (by omega) hS0 hP) Tryd.call10 (fun v93 w94 hk95 hv96 => ?_)) rfl
              have hl_b16_w94 := hB21.lt
              have hl_bsp_w94 := hBsp.lt
              have hs_w94 := hK.size
              have hsk_w94 := hk95.size
              obtain ⟨bsq, as0q, as1q, cs0q, cs1q, rfl, hgsq, hBsq, hS0q, hS1q⟩ := hv96
              replace hK := hK.trans (Kp.ext hk95)
              replace hB21 := hB21.ext hk95
              replace hBsp := hBsp.ext hk95
              replace hT := hT.ext hk95
              replace hLs := hLs.ext hk95
              replace hG := fun r hr => (hG r hr).ext hk95
              replace hTr_w13 := hTr_w13.trans (Kp.ext hk95)
              replace hS0 := hS0.ext hk95
              replace hS1 := hS1.ext hk95
              replace hRx := hRx.ext hk95
              replace hS0p := hS0p.ext hk95
              replace hS1p := hS1p.ext hk95
              replace hTr_w60 := hTr_w60.trans (Kp.ext hk95)
              replace hP := hP.ext hk95
              replace hTr_w86 := hTr_w86.trans (Kp.ext hk95)
              replace hS0q := hS0q.mono (G := fun b => w89.heap.size ≤ b ∧ b < w94.heap.size) (fun b hb h => ⟨h, hb⟩)
              replace hS1q := hS1q.mono (G := fun b => w89.heap.size ≤ b ∧ b < w94.heap.size) (fun b hb h => ⟨h, hb⟩)
              have hTr_w94 := Kp.refl (fun _ => True) w94
              refine rl (o_assign (v := .slice ((some ⟨bsq, 0, none⟩)) 2 2) rfl ?_) rfl
              refine rl_nil ?_
              refine k_tn ?_
              refine cw_norm [(0, .slice al ls.length cl), (4, .pointer (some ⟨b16, 0, none⟩)), (5, .int .i64 ((i : Int))), (7, .slice ((some ⟨bsp, 0, none⟩)) 2 2), (8, .slice ((some ⟨bsq, 0, none⟩)) 2 2)] ⟨rfl, rfl, rfl, rfl, rfl, trivial⟩ (fun ρn97 => ?_)
              refine cw_seq ?_
              refine cw_region rfl ?_
              refine rl (o_loadBA (ds := [.slice a0 s0.length p0, .slice aw3 X1.length cw3, .int .i64 (1), .slice a1 s1.length p1, .bool (true)]) rfl hB21 tyA27 rfl rfl ?_) rfl
              refine rl (o_call (jload_to _ _ _ _ _ _ s0 X1 s1 1 true _ _ _ ⟨x9.b, x9.m, 0, x9.s.xs⟩ ((i : Int) + 1) true _ hj1 (decide_eq_true (by omega)) rfl rfl rfl (by omega) (by omega) hh0.isB hBX hT hS0 hP) Tryd.call12 (fun v98 w99 hk100 hv101 => ?_)) rfl
              have hl_b16_w99 := hB21.lt
              have hl_bsp_w99 := hBsp.lt
              have hl_bsq_w99 := hBsq.lt
              have hs_w99 := hK.size
              have hsk_w99 := hk100.size
              obtain ⟨aol, cl9, rfl, hLl⟩ := hv101
              replace hK := hK.trans (Kp.ext hk100)
              replace hB21 := hB21.ext hk100
              replace hBsp := hBsp.ext hk100
              replace hBsq := hBsq.ext hk100
              replace hT := hT.ext hk100
              replace hLs := hLs.ext hk100
              replace hG := fun r hr => (hG r hr).ext hk100
              replace hTr_w13 := hTr_w13.trans (Kp.ext hk100)
              replace hS0 := hS0.ext hk100
              replace hS1 := hS1.ext hk100
              replace hRx := hRx.ext hk100
              replace hS0p := hS0p.ext hk100
              replace hS1p := hS1p.ext hk100
              replace hTr_w60 := hTr_w60.trans (Kp.ext hk100)
              replace hP := hP.ext hk100
              replace hTr_w86 := hTr_w86.trans (Kp.ext hk100)
              replace hS0q := hS0q.ext hk100
              replace hS1q := hS1q.ext hk100
              replace hTr_w94 := hTr_w94.trans (Kp.ext hk100)
              replace hLl := hLl.mono (G := fun b => w94.heap.size ≤ b ∧ b < w99.heap.size) (fun b hb h => ⟨h, hb⟩)
              have hTr_w99 := Kp.refl (fun _ => True) w99
              refine rl (o_move (v := .tuple #[.agg #[.int .i64 (x9.b), .int .i64 (x9.m), .int .i64 (0), .slice aol x9.s.xs.length cl9], .int .u64 ((i : Int) + 1), .bool (true)]) rfl ?_) rfl
              refine rl (o_extract (vs := [.agg #[.int .i64 (x9.b), .int .i64 (x9.m), .int .i64 (0), .slice aol x9.s.xs.length cl9], .int .u64 ((i : Int) + 1), .bool (true)]) (v := .agg #[.int .i64 (x9.b), .int .i64 (x9.m), .int .i64 (0), .slice aol x9.s.xs.length cl9]) rfl rfl ?_) rfl
              refine rl (o_extract (vs := [.agg #[.int .i64 (x9.b), .int .i64 (x9.m), .int .i64 (0), .slice aol x9.s.xs.length cl9], .int .u64 ((i : Int) + 1), .bool (true)]) (v := .int .u64 ((i : Int) + 1)) rfl rfl ?_) rfl
              refine rl (o_extract (vs := [.agg #[.int .i64 (x9.b), .int .i64 (x9.m), .int .i64 (0), .slice aol x9.s.xs.length cl9], .int .u64 ((i : Int) + 1), .bool (true)]) (v := .bool (true)) rfl rfl ?_) rfl
              refine rl (o_alloc Tryd.zeroValue32 (fun b102 w103 hb104 hz105 hk106 hB107 => ?_)) rfl
              replace hB107 : Box w103 b102 [.int .i64 (0), .int .i64 (0), .int .i64 (0), .slice none 0 0] 32 := hB107
              have hs_b102 := hK.size
              have hl_b16_b102 := hB21.lt
              have hl_bsp_b102 := hBsp.lt
              have hl_bsq_b102 := hBsq.lt
              have ht_hTr_w13_b102 := hTr_w13.size
              have ht_hTr_w60_b102 := hTr_w60.size
              have ht_hTr_w86_b102 := hTr_w86.size
              have ht_hTr_w94_b102 := hTr_w94.size
              have ht_hTr_w99_b102 := hTr_w99.size
              replace hK := hK.trans (Kp.ext hk106)
              replace hB21 := hB21.ext hk106
              replace hBsp := hBsp.ext hk106
              replace hBsq := hBsq.ext hk106
              replace hT := hT.ext hk106
              replace hLs := hLs.ext hk106
              replace hG := fun r hr => (hG r hr).ext hk106
              replace hTr_w13 := hTr_w13.trans (Kp.ext hk106)
              replace hS0 := hS0.ext hk106
              replace hS1 := hS1.ext hk106
              replace hRx := hRx.ext hk106
              replace hS0p := hS0p.ext hk106
              replace hS1p := hS1p.ext hk106
              replace hTr_w60 := hTr_w60.trans (Kp.ext hk106)
              replace hP := hP.ext hk106
              replace hTr_w86 := hTr_w86.trans (Kp.ext hk106)
              replace hS0q := hS0q.ext hk106
              replace hS1q := hS1q.ext hk106
              replace hTr_w94 := hTr_w94.trans (Kp.ext hk106)
              replace hLl := hLl.ext hk106
              replace hTr_w99 := hTr_w99.trans (Kp.ext hk106)
              refine rl0 (o_storeA (vs := [.int .i64 (x9.b), .int .i64 (x9.m), .int .i64 (0), .slice aol x9.s.xs.length cl9]) rfl rfl hB107 tyA32 rfl rfl (Nat.le_of_ble_eq_true rfl) (fun w108 hk109 hz110 hB111 => ?_)) rfl
              replace hB111 : Box w108 b102 [.int .i64 (x9.b), .int .i64 (x9.m), .int .i64 (0), .slice aol x9.s.xs.length cl9] 32 := hB111
              replace hK := hK.later hk109 (fun i hi hS => by have h1 : i = b102 := hS; omega)
              replace hB21 := hB21.kp hk109 (by show ¬ b16 = b102; omega)
              replace hBsp := hBsp.kp hk109 (by show ¬ bsp = b102; omega)
              replace hBsq := hBsq.kp hk109 (by show ¬ bsq = b102; omega)
              replace hT := hT.kp hk109 (fun h => by have h2 : (0 : Nat) = b102 := h; omega)
              replace hLs := hLs.kp hk109 (fun i _ hF hS => by have h1 : i < w.heap.size := hF; have h2 : i = b102 := hS; omega)
              replace hG := fun r hr => (hG r hr).kp hk109 (fun i _ hF hS => by have h1 : i < w.heap.size := hF; have h2 : i = b102 := hS; omega)
              replace hTr_w13 := hTr_w13.trans (hk109.mono (fun _ _ _ => trivial))
              replace hS0 := hS0.kp hk109 (fun i _ hF hS => by have h1 : i ≠ b16 ∧ i < w28.heap.size := hF; have h2 : i = b102 := hS; omega)
              replace hS1 := hS1.kp hk109 (fun i _ hF hS => by have h1 : i ≠ b16 ∧ i < w28.heap.size := hF; have h2 : i = b102 := hS; omega)
              replace hRx := hRx.kp hk109 (fun i _ hF hS => by have h1 : i < w.heap.size := hF; have h2 : i = b102 := hS; omega)
              replace hS0p := hS0p.kp hk109 (fun i _ hF hS => by have h1 : w53.heap.size ≤ i ∧ i < w60.heap.size := hF; have h2 : i = b102 := hS; omega)
              replace hS1p := hS1p.kp hk109 (fun i _ hF hS => by have h1 : w53.heap.size ≤ i ∧ i < w60.heap.size := hF; have h2 : i = b102 := hS; omega)
              replace hTr_w60 := hTr_w60.trans (hk109.mono (fun _ _ _ => trivial))
              replace hP := hP.kp hk109 (fun i _ hF hS => by have h1 : w72.heap.size ≤ i ∧ i < w86.heap.size := hF; have h2 : i = b102 := hS; omega)
              replace hTr_w86 := hTr_w86.trans (hk109.mono (fun _ _ _ => trivial))
              replace hS0q := hS0q.kp hk109 (fun i _ hF hS => by have h1 : w89.heap.size ≤ i ∧ i < w94.heap.size := hF; have h2 : i = b102 := hS; omega)
              replace hS1q := hS1q.kp hk109 (fun i _ hF hS => by have h1 : w89.heap.size ≤ i ∧ i < w94.heap.size := hF; have h2 : i = b102 := hS; omega)
              replace hTr_w94 := hTr_w94.trans (hk109.mono (fun _ _ _ => trivial))
              replace hLl := hLl.kp hk109 (fun i _ hF hS => by have h1 : w94.heap.size ≤ i ∧ i < w99.heap.size := hF; have h2 : i = b102 := hS; omega)
              replace hTr_w99 := hTr_w99.trans (hk109.mono (fun _ _ _ => trivial))
              replace hB107 := hB111
              refine rl (o_assign (v := .int .u64 ((i : Int) + 1)) rfl ?_) rfl
              refine rl (o_assign (v := .bool (true)) rfl ?_) rfl
              refine rl_nil ?_
              refine k_tn ?_
              refine cw_norm [(0, .slice al ls.length cl), (4, .pointer (some ⟨b16, 0, none⟩)), (5, .int .i64 ((i : Int))), (7, .slice ((some ⟨bsp, 0, none⟩)) 2 2), (8, .slice ((some ⟨bsq, 0, none⟩)) 2 2), (9, .pointer (some ⟨b102, 0, none⟩)), (10, .int .u64 ((i : Int) + 1)), (11, .bool (true))] ⟨rfl, rfl, rfl, rfl, rfl, rfl, rfl, rfl, trivial⟩ (fun ρn112 => ?_)
              refine cw_seq ?_
              obtain ⟨bz113, oz113, yz113, haoz113, hyez113, hAz113, hlt_bz113, hF_bz113⟩ := Rd.getF hLs i (by omega)
              replace hF_bz113 : bz113 < w.heap.size := hF_bz113
              obtain hxy : x9 = yz113 := Option.some.inj (hxe.symm.trans hyez113)
              subst hxy
              refine cw_region rfl ?_
              refine rl (o_move (v := .slice al ls.length cl) rfl ?_) rfl
              refine rl (o_move (v := .int .i64 ((i : Int))) rfl ?_) rfl
              refine rl (o_idxAt i rfl rfl Tryd.underlying22 Tryd.sizeOf32 haoz113 (by omega) (by omega) ?_) rfl
              refine rl (o_loadA (cs := [.int .i64 (x9.b), .int .i64 (x9.m), .int .i64 (x9.c), .slice x9.s.ao x9.s.xs.length x9.s.c]) rfl tyA32 rfl hAz113 ?_) rfl
              refine rl (o_call (of16_ok x9.b x9.m x9.c _ _ x9.s.xs _ _ rfl (by omega) hRx) Tryd.call13 (fun v120 w121 hk122 hv123 => ?_)) rfl
              have hl_b16_w121 := hB21.lt
              have hl_bsp_w121 := hBsp.lt
              have hl_bsq_w121 := hBsq.lt
              have hl_b102_w121 := hB107.lt
              have hs_w121 := hK.size
              have hsk_w121 := hk122.size
              obtain ⟨noa, aoa, coa, rfl, hnoa, hOa⟩ := hv123
              replace hK := hK.trans (Kp.ext hk122)
              replace hB21 := hB21.ext hk122
              replace hBsp := hBsp.ext hk122
              replace hBsq := hBsq.ext hk122
              replace hB107 := hB107.ext hk122
              replace hT := hT.ext hk122
              replace hLs := hLs.ext hk122
              replace hG := fun r hr => (hG r hr).ext hk122
              replace hTr_w13 := hTr_w13.trans (Kp.ext hk122)
              replace hS0 := hS0.ext hk122
              replace hS1 := hS1.ext hk122
              replace hRx := hRx.ext hk122
              replace hS0p := hS0p.ext hk122
              replace hS1p := hS1p.ext hk122
              replace hTr_w60 := hTr_w60.trans (Kp.ext hk122)
              replace hP := hP.ext hk122
              replace hTr_w86 := hTr_w86.trans (Kp.ext hk122)
              replace hS0q := hS0q.ext hk122
              replace hS1q := hS1q.ext hk122
              replace hTr_w94 := hTr_w94.trans (Kp.ext hk122)
              replace hLl := hLl.ext hk122
              replace hTr_w99 := hTr_w99.trans (Kp.ext hk122)
              replace hAz113 := At.ext hAz113 hk122
              subst hnoa
              replace hOa := hOa.mono (G := fun b => w108.heap.size ≤ b ∧ b < w121.heap.size) (fun b hb h => ⟨h, hb⟩)
              have hTr_w121 := Kp.refl (fun _ => True) w121
              refine rl (o_alloc Tryd.zeroValue41 (fun b124 w125 hb126 hz127 hk128 hB129 => ?_)) rfl
              replace hB129 : Box w125 b124 [.int .i64 (0), .int .i64 (0), .int .i64 (0), .slice none 0 0] 41 := hB129
              have hs_b124 := hK.size
              have hl_b16_b124 := hB21.lt
              have hl_bsp_b124 := hBsp.lt
              have hl_bsq_b124 := hBsq.lt
              have hl_b102_b124 := hB107.lt
              have ht_hTr_w13_b124 := hTr_w13.size
              have ht_hTr_w60_b124 := hTr_w60.size
              have ht_hTr_w86_b124 := hTr_w86.size
              have ht_hTr_w94_b124 := hTr_w94.size
              have ht_hTr_w99_b124 := hTr_w99.size
              have ht_hTr_w121_b124 := hTr_w121.size
              replace hK := hK.trans (Kp.ext hk128)
              replace hB21 := hB21.ext hk128
              replace hBsp := hBsp.ext hk128
              replace hBsq := hBsq.ext hk128
              replace hB107 := hB107.ext hk128
              replace hT := hT.ext hk128
              replace hLs := hLs.ext hk128
              replace hG := fun r hr => (hG r hr).ext hk128
              replace hTr_w13 := hTr_w13.trans (Kp.ext hk128)
              replace hS0 := hS0.ext hk128
              replace hS1 := hS1.ext hk128
              replace hRx := hRx.ext hk128
              replace hS0p := hS0p.ext hk128
              replace hS1p := hS1p.ext hk128
              replace hTr_w60 := hTr_w60.trans (Kp.ext hk128)
              replace hP := hP.ext hk128
              replace hTr_w86 := hTr_w86.trans (Kp.ext hk128)
              replace hS0q := hS0q.ext hk128
              replace hS1q := hS1q.ext hk128
              replace hTr_w94 := hTr_w94.trans (Kp.ext hk128)
              replace hLl := hLl.ext hk128
              replace hTr_w99 := hTr_w99.trans (Kp.ext hk128)
              replace hOa := hOa.ext hk128
              replace hTr_w121 := hTr_w121.trans (Kp.ext hk128)
              replace hAz113 := At.ext hAz113 hk128
              refine rl0 (o_storeA (vs := [.int .i64 (x9.b), .int .i64 (x9.m), .int .i64 (x9.c), .slice aoa x9.s.xs.length coa]) rfl rfl hB129 tyA41 rfl rfl (Nat.le_of_ble_eq_true rfl) (fun w130 hk131 hz132 hB133 => ?_)) rfl
              replace hB133 : Box w130 b124 [.int .i64 (x9.b), .int .i64 (x9.m), .int .i64 (x9.c), .slice aoa x9.s.xs.length coa] 41 := hB133
              replace hK := hK.later hk131 (fun i hi hS => by have h1 : i = b124 := hS; omega)
              replace hB21 := hB21.kp hk131 (by show ¬ b16 = b124; omega)
              replace hBsp := hBsp.kp hk131 (by show ¬ bsp = b124; omega)
              replace hBsq := hBsq.kp hk131 (by show ¬ bsq = b124; omega)
              replace hB107 := hB107.kp hk131 (by show ¬ b102 = b124; omega)
              replace hT := hT.kp hk131 (fun h => by have h2 : (0 : Nat) = b124 := h; omega)
              replace hLs := hLs.kp hk131 (fun i _ hF hS => by have h1 : i < w.heap.size := hF; have h2 : i = b124 := hS; omega)
              replace hG := fun r hr => (hG r hr).kp hk131 (fun i _ hF hS => by have h1 : i < w.heap.size := hF; have h2 : i = b124 := hS; omega)
              replace hTr_w13 := hTr_w13.trans (hk131.mono (fun _ _ _ => trivial))
              replace hS0 := hS0.kp hk131 (fun i _ hF hS => by have h1 : i ≠ b16 ∧ i < w28.heap.size := hF; have h2 : i = b124 := hS; omega)
              replace hS1 := hS1.kp hk131 (fun i _ hF hS => by have h1 : i ≠ b16 ∧ i < w28.heap.size := hF; have h2 : i = b124 := hS; omega)
              replace hRx := hRx.kp hk131 (fun i _ hF hS => by have h1 : i < w.heap.size := hF; have h2 : i = b124 := hS; omega)
              replace hS0p := hS0p.kp hk131 (fun i _ hF hS => by have h1 : w53.heap.size ≤ i ∧ i < w60.heap.size := hF; have h2 : i = b124 := hS; omega)
              replace hS1p := hS1p.kp hk131 (fun i _ hF hS => by have h1 : w53.heap.size ≤ i ∧ i < w60.heap.size := hF; have h2 : i = b124 := hS; omega)
              replace hTr_w60 := hTr_w60.trans (hk131.mono (fun _ _ _ => trivial))
              replace hP := hP.kp hk131 (fun i _ hF hS => by have h1 : w72.heap.size ≤ i ∧ i < w86.heap.size := hF; have h2 : i = b124 := hS; omega)
              replace hTr_w86 := hTr_w86.trans (hk131.mono (fun _ _ _ => trivial))
              replace hS0q := hS0q.kp hk131 (fun i _ hF hS => by have h1 : w89.heap.size ≤ i ∧ i < w94.heap.size := hF; have h2 : i = b124 := hS; omega)
              replace hS1q := hS1q.kp hk131 (fun i _ hF hS => by have h1 : w89.heap.size ≤ i ∧ i < w94.heap.size := hF; have h2 : i = b124 := hS; omega)
              replace hTr_w94 := hTr_w94.trans (hk131.mono (fun _ _ _ => trivial))
              replace hLl := hLl.kp hk131 (fun i _ hF hS => by have h1 : w94.heap.size ≤ i ∧ i < w99.heap.size := hF; have h2 : i = b124 := hS; omega)
              replace hTr_w99 := hTr_w99.trans (hk131.mono (fun _ _ _ => trivial))
              replace hOa := hOa.kp hk131 (fun i _ hF hS => by have h1 : w108.heap.size ≤ i ∧ i < w121.heap.size := hF; have h2 : i = b124 := hS; omega)
              replace hTr_w121 := hTr_w121.trans (hk131.mono (fun _ _ _ => trivial))
              replace hB129 := hB133
              refine rl_nil ?_
              refine k_tn ?_
              refine cw_norm [(0, .slice al ls.length cl), (4, .pointer (some ⟨b16, 0, none⟩)), (5, .int .i64 ((i : Int))), (7, .slice ((some ⟨bsp, 0, none⟩)) 2 2), (8, .slice ((some ⟨bsq, 0, none⟩)) 2 2), (9, .pointer (some ⟨b102, 0, none⟩)), (10, .int .u64 ((i : Int) + 1)), (11, .bool (true)), (12, .pointer (some ⟨b124, 0, none⟩))] ⟨rfl, rfl, rfl, rfl, rfl, rfl, rfl, rfl, rfl, trivial⟩ (fun ρn134 => ?_)
              refine cw_seq ?_
              refine cw_region rfl ?_
              refine rl (o_field rfl fa41_2 ?_) rfl
              refine rl0 (o_store1 (v := .int .i64 (0)) rfl rfl hB129 tyS3 rfl (Nat.le_of_ble_eq_true rfl) (fun w135 hk136 hz137 hB138 => ?_)) rfl
              replace hB138 : Box w135 b124 [.int .i64 (x9.b), .int .i64 (x9.m), .int .i64 (0), .slice aoa x9.s.xs.length coa] 41 := hB138
              replace hK := hK.later hk136 (fun i hi hS => by have h1 : i = b124 := hS; omega)
              replace hB21 := hB21.kp hk136 (by show ¬ b16 = b124; omega)
              replace hBsp := hBsp.kp hk136 (by show ¬ bsp = b124; omega)
              replace hBsq := hBsq.kp hk136 (by show ¬ bsq = b124; omega)
              replace hB107 := hB107.kp hk136 (by show ¬ b102 = b124; omega)
              replace hT := hT.kp hk136 (fun h => by have h2 : (0 : Nat) = b124 := h; omega)
              replace hLs := hLs.kp hk136 (fun i _ hF hS => by have h1 : i < w.heap.size := hF; have h2 : i = b124 := hS; omega)
              replace hG := fun r hr => (hG r hr).kp hk136 (fun i _ hF hS => by have h1 : i < w.heap.size := hF; have h2 : i = b124 := hS; omega)
              replace hTr_w13 := hTr_w13.trans (hk136.mono (fun _ _ _ => trivial))
              replace hS0 := hS0.kp hk136 (fun i _ hF hS => by have h1 : i ≠ b16 ∧ i < w28.heap.size := hF; have h2 : i = b124 := hS; omega)
              replace hS1 := hS1.kp hk136 (fun i _ hF hS => by have h1 : i ≠ b16 ∧ i < w28.heap.size := hF; have h2 : i = b124 := hS; omega)
              replace hRx := hRx.kp hk136 (fun i _ hF hS => by have h1 : i < w.heap.size := hF; have h2 : i = b124 := hS; omega)
              replace hS0p := hS0p.kp hk136 (fun i _ hF hS => by have h1 : w53.heap.size ≤ i ∧ i < w60.heap.size := hF; have h2 : i = b124 := hS; omega)
              replace hS1p := hS1p.kp hk136 (fun i _ hF hS => by have h1 : w53.heap.size ≤ i ∧ i < w60.heap.size := hF; have h2 : i = b124 := hS; omega)
              replace hTr_w60 := hTr_w60.trans (hk136.mono (fun _ _ _ => trivial))
              replace hP := hP.kp hk136 (fun i _ hF hS => by have h1 : w72.heap.size ≤ i ∧ i < w86.heap.size := hF; have h2 : i = b124 := hS; omega)
              replace hTr_w86 := hTr_w86.trans (hk136.mono (fun _ _ _ => trivial))
              replace hS0q := hS0q.kp hk136 (fun i _ hF hS => by have h1 : w89.heap.size ≤ i ∧ i < w94.heap.size := hF; have h2 : i = b124 := hS; omega)
              replace hS1q := hS1q.kp hk136 (fun i _ hF hS => by have h1 : w89.heap.size ≤ i ∧ i < w94.heap.size := hF; have h2 : i = b124 := hS; omega)
              replace hTr_w94 := hTr_w94.trans (hk136.mono (fun _ _ _ => trivial))
              replace hLl := hLl.kp hk136 (fun i _ hF hS => by have h1 : w94.heap.size ≤ i ∧ i < w99.heap.size := hF; have h2 : i = b124 := hS; omega)
              replace hTr_w99 := hTr_w99.trans (hk136.mono (fun _ _ _ => trivial))
              replace hOa := hOa.kp hk136 (fun i _ hF hS => by have h1 : w108.heap.size ≤ i ∧ i < w121.heap.size := hF; have h2 : i = b124 := hS; omega)
              replace hTr_w121 := hTr_w121.trans (hk136.mono (fun _ _ _ => trivial))
              replace hB129 := hB138
              refine rl_nil ?_
              refine k_tn ?_
              refine cw_norm [(0, .slice al ls.length cl), (4, .pointer (some ⟨b16, 0, none⟩)), (5, .int .i64 ((i : Int))), (7, .slice ((some ⟨bsp, 0, none⟩)) 2 2), (8, .slice ((some ⟨bsq, 0, none⟩)) 2 2), (9, .pointer (some ⟨b102, 0, none⟩)), (10, .int .u64 ((i : Int) + 1)), (11, .bool (true)), (12, .pointer (some ⟨b124, 0, none⟩))] ⟨rfl, rfl, rfl, rfl, rfl, rfl, rfl, rfl, rfl, trivial⟩ (fun ρn139 => ?_)
              refine cw_seq ?_
              have ht_hTr_w13_d2 := hTr_w13.size
              have ht_hTr_w60_d2 := hTr_w60.size
              have ht_hTr_w86_d2 := hTr_w86.size
              have ht_hTr_w94_d2 := hTr_w94.size
              have ht_hTr_w99_d2 := hTr_w99.size
              have ht_hTr_w121_d2 := hTr_w121.size
              have hl_b16_d2 := hB21.lt
              have hl_bsp_d2 := hBsp.lt
              have hl_bsq_d2 := hBsq.lt
              have hl_b102_d2 := hB107.lt
              have hl_b124_d2 := hB129.lt
              refine cw_norm [(0, .slice al ls.length cl), (4, .pointer (some ⟨b16, 0, none⟩)), (5, .int .i64 ((i : Int))), (7, .slice ((some ⟨bsp, 0, none⟩)) 2 2), (8, .slice ((some ⟨bsq, 0, none⟩)) 2 2), (9, .pointer (some ⟨b102, 0, none⟩)), (10, .int .u64 ((i : Int) + 1)), (11, .bool (true)), (12, .pointer (some ⟨b124, 0, none⟩))] ⟨rfl, rfl, rfl, rfl, rfl, rfl, rfl, rfl, rfl, trivial⟩ (fun ρr144 => ?_)
              have hsr2 := hK.size
              refine cw_drawnK (fun _ => False) 26 [.val (.bool (true)), .val (.bool (false)), .val (.bool (false)), .val (.int .u64 ((i : Int) + 1)), .val (.int .i64 ((i : Int))), .val (.int .u64 ((i : Int))), .val (.int .u64 ((i : Int) + 1)), .val (.bool (false)), .val (.bool (false)), .val (.bool (false)), .val (.agg #[.int .i64 (x9.b), .int .i64 (x9.m), .int .i64 (0), .slice aol x9.s.xs.length cl9]), .fact (fun c wq => (cv c 0) = .agg #[.int .i64 (x9.b), .int .i64 (x9.m), .int .i64 (0), .slice (sAo (tAt (cv c 0) 3)) x9.s.xs.length (sCap (tAt (cv c 0) 3))] ∧ (w135.heap.size ≤ (ca c 0)) ∧ (Rd (fun b => (ca c 0) ≤ b ∧ b < (ce c 0)) wq 2 (.slice (sAo (tAt (cv c 0) 3)) x9.s.xs.length (sCap (tAt (cv c 0) 3))) ((x9.s.xs).map encP))), .val (.agg #[.int .i64 (x9.b), .int .i64 (x9.m), .int .i64 (0), .slice aoa x9.s.xs.length coa])] [.val (.bool (true)), .val (.bool (false)), .val (.bool (false)), .val (.int .u64 ((i : Int) + 1)), .val (.int .i64 ((i : Int))), .val (.int .u64 ((i : Int))), .val (.int .u64 ((i : Int) + 1)), .val (.bool (false)), .val (.bool (false)), .val (.bool (false)), .val (.agg #[.int .i64 (x9.b), .int .i64 (x9.m), .int .i64 (0), .slice aol x9.s.xs.length cl9]), .fact (fun c wq => (cv c 0) = .agg #[.int .i64 (x9.b), .int .i64 (x9.m), .int .i64 (0), .slice (sAo (tAt (cv c 0) 3)) x9.s.xs.length (sCap (tAt (cv c 0) 3))] ∧ (w135.heap.size ≤ (ca c 0)) ∧ (Rd (fun b => (ca c 0) ≤ b ∧ b < (ce c 0)) wq 2 (.slice (sAo (tAt (cv c 0) 3)) x9.s.xs.length (sCap (tAt (cv c 0) 3))) ((x9.s.xs).map encP))), .val (.agg #[.int .i64 (x9.b), .int .i64 (x9.m), .int .i64 (0), .slice aoa x9.s.xs.length coa])] [[], [0], [0, 1], [0, 1, 2], [0, 1, 2], [0, 1, 2, 4], [0, 1, 2, 4, 5], [0, 1, 2, 3, 4, 5, 6], [0, 1, 2, 3, 4, 5, 6, 7], [0, 1, 2, 3, 4, 5, 6, 7, 8], [0, 1, 2, 3, 4, 5, 6, 7, 8, 9], [0, 1, 2, 3, 4, 5, 6, 7, 8, 9, 10], [0, 1, 2, 3, 4, 5, 6, 7, 8, 9], [0, 1, 2, 3, 4, 5, 6, 7, 8, 9, 10, 11, 12], [0, 1, 2, 3, 4, 5, 6, 7, 8, 9, 10, 11, 12, 13], [0, 1, 2, 3, 4, 5, 6, 7, 8, 9, 10, 11, 12, 13, 14], [0, 1, 2, 3, 4, 5, 6, 7, 8, 9, 10, 11, 12, 13, 14, 15], [0, 1, 2, 3, 4, 5, 6, 7, 8, 9, 10, 11, 12, 13, 14, 15, 16], [0, 1, 2, 3, 4, 5, 6, 7, 8, 9, 10, 11, 12, 13, 14, 15, 16, 17], [0, 1, 2, 3, 4, 5, 6, 7, 8, 9, 10, 11, 12, 13, 14, 15, 16, 17, 18], [0, 1, 2, 3, 4, 5, 6, 7, 8, 9, 10, 11, 12, 13, 14, 15, 16, 17, 18, 19], [0, 1, 2, 3, 4, 5, 6, 7, 8, 9, 10, 11, 12, 13, 14, 15, 16, 17, 18, 19, 20], [0, 1, 2, 3, 4, 5, 6, 7, 8, 9, 10, 11, 12, 13, 14, 15, 16, 17, 18, 19, 20, 21], [0, 1, 2, 3, 4, 5, 6, 7, 8, 9, 10, 11, 12, 13, 14, 15, 16, 17, 18, 19, 20, 21, 22], [0, 1, 2, 3, 4, 5, 6, 7, 8, 9, 10, 11, 12, 13, 14, 15, 16, 17, 18, 19, 20, 21, 22, 23], [0, 1, 2, 3, 4, 5, 6, 7, 8, 9, 10, 11, 12, 13, 14, 15, 16, 17, 18, 19, 20, 21, 22, 23, 24]] 13 mixed (by kernel_rfl) ⟨upK_val, upK_val, upK_val, upK_val, upK_val, upK_val, upK_val, upK_val, upK_val, upK_val, upK_val, upK_no rfl rfl (fun c wq wq' ⟨hv, hlo11, hOb⟩ hk => ⟨hv, hlo11, hOb.ext hk⟩), upK_val, trivial⟩ ⟨⟨⟨⟨⟨⟨⟨⟨⟨⟨⟨⟨⟨trivial, ?_⟩, ?_⟩, ?_⟩, ?_⟩, ?_⟩, ?_⟩, ?_⟩, ?_⟩, ?_⟩, ?_⟩, ?_⟩, ?_⟩, ?_⟩ (fun w145 vs146 lo147 hi148 hE149 hkn150 hap151 => ?_)
              · refine oblK_post rfl rfl (fun w145k vs lo hi hE hkn hap => ?_)
                have hEs := hE.size
                replace hK := hK.trans (Kp.ext hE)
                replace hB21 := hB21.ext hE
                replace hBsp := hBsp.ext hE
                replace hBsq := hBsq.ext hE
                replace hB107 := hB107.ext hE
                replace hB129 := hB129.ext hE
                replace hT := hT.ext hE
                replace hLs := hLs.ext hE
                replace hG := fun r hr => (hG r hr).ext hE
                replace hTr_w13 := hTr_w13.trans (Kp.ext hE)
                replace hS0 := hS0.ext hE
                replace hS1 := hS1.ext hE
                replace hRx := hRx.ext hE
                replace hS0p := hS0p.ext hE
                replace hS1p := hS1p.ext hE
                replace hTr_w60 := hTr_w60.trans (Kp.ext hE)
                replace hP := hP.ext hE
                replace hTr_w86 := hTr_w86.trans (Kp.ext hE)
                replace hS0q := hS0q.ext hE
                replace hS1q := hS1q.ext hE
                replace hTr_w94 := hTr_w94.trans (Kp.ext hE)
                replace hLl := hLl.ext hE
                replace hTr_w99 := hTr_w99.trans (Kp.ext hE)
                replace hOa := hOa.ext hE
                replace hTr_w121 := hTr_w121.trans (Kp.ext hE)
                refine oblK_n rfl ?_
                refine opk_norm [(11, .bool (true))] ⟨rfl, trivial⟩ (fun ρq => ?_)
                refine o_move (v := .bool (true)) rfl ?_
                exact ⟨Kp.refl _ _, rfl⟩
              · refine oblK_post rfl rfl (fun w145k vs lo hi hE hkn hap => ?_)
                have hEs := hE.size
                replace hK := hK.trans (Kp.ext hE)
                replace hB21 := hB21.ext hE
                replace hBsp := hBsp.ext hE
                replace hBsq := hBsq.ext hE
                replace hB107 := hB107.ext hE
                replace hB129 := hB129.ext hE
                replace hT := hT.ext hE
                replace hLs := hLs.ext hE
                replace hG := fun r hr => (hG r hr).ext hE
                replace hTr_w13 := hTr_w13.trans (Kp.ext hE)
                replace hS0 := hS0.ext hE
                replace hS1 := hS1.ext hE
                replace hRx := hRx.ext hE
                replace hS0p := hS0p.ext hE
                replace hS1p := hS1p.ext hE
                replace hTr_w60 := hTr_w60.trans (Kp.ext hE)
                replace hP := hP.ext hE
                replace hTr_w86 := hTr_w86.trans (Kp.ext hE)
                replace hS0q := hS0q.ext hE
                replace hS1q := hS1q.ext hE
                replace hTr_w94 := hTr_w94.trans (Kp.ext hE)
                replace hLl := hLl.ext hE
                replace hTr_w99 := hTr_w99.trans (Kp.ext hE)
                replace hOa := hOa.ext hE
                replace hTr_w121 := hTr_w121.trans (Kp.ext hE)
                refine oblK_n rfl ?_
                refine opk_norm [(64, .bool (true))] ⟨rfl, trivial⟩ (fun ρq => ?_)
                refine o_not rfl ?_
                exact ⟨Kp.refl _ _, rfl⟩
              · refine oblK_post rfl rfl (fun w145k vs lo hi hE hkn hap => ?_)
                have hEs := hE.size
                replace hK := hK.trans (Kp.ext hE)
                replace hB21 := hB21.ext hE
                replace hBsp := hBsp.ext hE
                replace hBsq := hBsq.ext hE
                replace hB107 := hB107.ext hE
                replace hB129 := hB129.ext hE
                replace hT := hT.ext hE
                replace hLs := hLs.ext hE
                replace hG := fun r hr => (hG r hr).ext hE
                replace hTr_w13 := hTr_w13.trans (Kp.ext hE)
                replace hS0 := hS0.ext hE
                replace hS1 := hS1.ext hE
                replace hRx := hRx.ext hE
                replace hS0p := hS0p.ext hE
                replace hS1p := hS1p.ext hE
                replace hTr_w60 := hTr_w60.trans (Kp.ext hE)
                replace hP := hP.ext hE
                replace hTr_w86 := hTr_w86.trans (Kp.ext hE)
                replace hS0q := hS0q.ext hE
                replace hS1q := hS1q.ext hE
                replace hTr_w94 := hTr_w94.trans (Kp.ext hE)
                replace hLl := hLl.ext hE
                replace hTr_w99 := hTr_w99.trans (Kp.ext hE)
                replace hOa := hOa.ext hE
                replace hTr_w121 := hTr_w121.trans (Kp.ext hE)
                refine oblK_n rfl ?_
                refine opk_norm [(65, .bool (false))] ⟨rfl, trivial⟩ (fun ρq => ?_)
                refine o_move (v := .bool (false)) rfl ?_
                exact ⟨Kp.refl _ _, rfl⟩
              · refine oblK_post rfl rfl (fun w145k vs lo hi hE hkn hap => ?_)
                have hEs := hE.size
                replace hK := hK.trans (Kp.ext hE)
                replace hB21 := hB21.ext hE
                replace hBsp := hBsp.ext hE
                replace hBsq := hBsq.ext hE
                replace hB107 := hB107.ext hE
                replace hB129 := hB129.ext hE
                replace hT := hT.ext hE
                replace hLs := hLs.ext hE
                replace hG := fun r hr => (hG r hr).ext hE
                replace hTr_w13 := hTr_w13.trans (Kp.ext hE)
                replace hS0 := hS0.ext hE
                replace hS1 := hS1.ext hE
                replace hRx := hRx.ext hE
                replace hS0p := hS0p.ext hE
                replace hS1p := hS1p.ext hE
                replace hTr_w60 := hTr_w60.trans (Kp.ext hE)
                replace hP := hP.ext hE
                replace hTr_w86 := hTr_w86.trans (Kp.ext hE)
                replace hS0q := hS0q.ext hE
                replace hS1q := hS1q.ext hE
                replace hTr_w94 := hTr_w94.trans (Kp.ext hE)
                replace hLl := hLl.ext hE
                replace hTr_w99 := hTr_w99.trans (Kp.ext hE)
                replace hOa := hOa.ext hE
                replace hTr_w121 := hTr_w121.trans (Kp.ext hE)
                refine oblK_n (want_t rfl (rfl)) ?_
                refine opk_norm [(10, .int .u64 ((i : Int) + 1)), (66, .bool (false))] ⟨rfl, rfl, trivial⟩ (fun ρq => ?_)
                refine o_move (v := .int .u64 ((i : Int) + 1)) rfl ?_
                exact ⟨Kp.refl _ _, rfl⟩
              · refine oblK_post rfl rfl (fun w145k vs lo hi hE hkn hap => ?_)
                have hEs := hE.size
                replace hK := hK.trans (Kp.ext hE)
                replace hB21 := hB21.ext hE
                replace hBsp := hBsp.ext hE
                replace hBsq := hBsq.ext hE
                replace hB107 := hB107.ext hE
                replace hB129 := hB129.ext hE
                replace hT := hT.ext hE
                replace hLs := hLs.ext hE
                replace hG := fun r hr => (hG r hr).ext hE
                replace hTr_w13 := hTr_w13.trans (Kp.ext hE)
                replace hS0 := hS0.ext hE
                replace hS1 := hS1.ext hE
                replace hRx := hRx.ext hE
                replace hS0p := hS0p.ext hE
                replace hS1p := hS1p.ext hE
                replace hTr_w60 := hTr_w60.trans (Kp.ext hE)
                replace hP := hP.ext hE
                replace hTr_w86 := hTr_w86.trans (Kp.ext hE)
                replace hS0q := hS0q.ext hE
                replace hS1q := hS1q.ext hE
                replace hTr_w94 := hTr_w94.trans (Kp.ext hE)
                replace hLl := hLl.ext hE
                replace hTr_w99 := hTr_w99.trans (Kp.ext hE)
                replace hOa := hOa.ext hE
                replace hTr_w121 := hTr_w121.trans (Kp.ext hE)
                refine oblK_n (want_t rfl (rfl)) ?_
                refine opk_norm [(5, .int .i64 ((i : Int))), (66, .bool (false))] ⟨rfl, rfl, trivial⟩ (fun ρq => ?_)
                refine o_move (v := .int .i64 ((i : Int))) rfl ?_
                exact ⟨Kp.refl _ _, rfl⟩
              · refine oblK_post rfl rfl (fun w145k vs lo hi hE hkn hap => ?_)
                have hEs := hE.size
                replace hK := hK.trans (Kp.ext hE)
                replace hB21 := hB21.ext hE
                replace hBsp := hBsp.ext hE
                replace hBsq := hBsq.ext hE
                replace hB107 := hB107.ext hE
                replace hB129 := hB129.ext hE
                replace hT := hT.ext hE
                replace hLs := hLs.ext hE
                replace hG := fun r hr => (hG r hr).ext hE
                replace hTr_w13 := hTr_w13.trans (Kp.ext hE)
                replace hS0 := hS0.ext hE
                replace hS1 := hS1.ext hE
                replace hRx := hRx.ext hE
                replace hS0p := hS0p.ext hE
                replace hS1p := hS1p.ext hE
                replace hTr_w60 := hTr_w60.trans (Kp.ext hE)
                replace hP := hP.ext hE
                replace hTr_w86 := hTr_w86.trans (Kp.ext hE)
                replace hS0q := hS0q.ext hE
                replace hS1q := hS1q.ext hE
                replace hTr_w94 := hTr_w94.trans (Kp.ext hE)
                replace hLl := hLl.ext hE
                replace hTr_w99 := hTr_w99.trans (Kp.ext hE)
                replace hOa := hOa.ext hE
                replace hTr_w121 := hTr_w121.trans (Kp.ext hE)
                refine oblK_n (want_t rfl (rfl)) ?_
                refine opk_norm [(66, .bool (false)), (68, .int .i64 ((i : Int)))] ⟨rfl, rfl, trivial⟩ (fun ρq => ?_)
                refine o_convI (a := (i : Int)) rfl ⟨_, Tryd.underlying3⟩ Tryd.underlying36 (by show (0 : Int) ≤ _; omega) (by show _ ≤ (18446744073709551615 : Int); omega) ?_
                exact ⟨Kp.refl _ _, rfl⟩
              · refine oblK_post rfl rfl (fun w145k vs lo hi hE hkn hap => ?_)
                have hEs := hE.size
                replace hK := hK.trans (Kp.ext hE)
                replace hB21 := hB21.ext hE
                replace hBsp := hBsp.ext hE
                replace hBsq := hBsq.ext hE
                replace hB107 := hB107.ext hE
                replace hB129 := hB129.ext hE
                replace hT := hT.ext hE
                replace hLs := hLs.ext hE
                replace hG := fun r hr => (hG r hr).ext hE
                replace hTr_w13 := hTr_w13.trans (Kp.ext hE)
                replace hS0 := hS0.ext hE
                replace hS1 := hS1.ext hE
                replace hRx := hRx.ext hE
                replace hS0p := hS0p.ext hE
                replace hS1p := hS1p.ext hE
                replace hTr_w60 := hTr_w60.trans (Kp.ext hE)
                replace hP := hP.ext hE
                replace hTr_w86 := hTr_w86.trans (Kp.ext hE)
                replace hS0q := hS0q.ext hE
                replace hS1q := hS1q.ext hE
                replace hTr_w94 := hTr_w94.trans (Kp.ext hE)
                replace hLl := hLl.ext hE
                replace hTr_w99 := hTr_w99.trans (Kp.ext hE)
                replace hOa := hOa.ext hE
                replace hTr_w121 := hTr_w121.trans (Kp.ext hE)
                refine oblK_n (want_t rfl (rfl)) ?_
                refine opk_norm [(66, .bool (false)), (69, .int .u64 ((i : Int)))] ⟨rfl, rfl, trivial⟩ (fun ρq => ?_)
                refine o_addE rfl rfl (by omega) (by omega) ?_
                exact ⟨Kp.refl _ _, rfl⟩
              · refine oblK_post rfl rfl (fun w145k vs lo hi hE hkn hap => ?_)
                have hEs := hE.size
                replace hK := hK.trans (Kp.ext hE)
                replace hB21 := hB21.ext hE
                replace hBsp := hBsp.ext hE
                replace hBsq := hBsq.ext hE
                replace hB107 := hB107.ext hE
                replace hB129 := hB129.ext hE
                replace hT := hT.ext hE
                replace hLs := hLs.ext hE
                replace hG := fun r hr => (hG r hr).ext hE
                replace hTr_w13 := hTr_w13.trans (Kp.ext hE)
                replace hS0 := hS0.ext hE
                replace hS1 := hS1.ext hE
                replace hRx := hRx.ext hE
                replace hS0p := hS0p.ext hE
                replace hS1p := hS1p.ext hE
                replace hTr_w60 := hTr_w60.trans (Kp.ext hE)
                replace hP := hP.ext hE
                replace hTr_w86 := hTr_w86.trans (Kp.ext hE)
                replace hS0q := hS0q.ext hE
                replace hS1q := hS1q.ext hE
                replace hTr_w94 := hTr_w94.trans (Kp.ext hE)
                replace hLl := hLl.ext hE
                replace hTr_w99 := hTr_w99.trans (Kp.ext hE)
                replace hOa := hOa.ext hE
                replace hTr_w121 := hTr_w121.trans (Kp.ext hE)
                refine oblK_n (want_t rfl (rfl)) ?_
                refine opk_norm [(66, .bool (false)), (67, .int .u64 ((i : Int) + 1)), (70, .int .u64 ((i : Int) + 1))] ⟨rfl, rfl, rfl, trivial⟩ (fun ρq => ?_)
                refine o_neqT (a := (i : Int) + 1) rfl rfl rfl ?_
                exact ⟨Kp.refl _ _, rfl⟩
              · refine oblK_post rfl rfl (fun w145k vs lo hi hE hkn hap => ?_)
                have hEs := hE.size
                replace hK := hK.trans (Kp.ext hE)
                replace hB21 := hB21.ext hE
                replace hBsp := hBsp.ext hE
                replace hBsq := hBsq.ext hE
                replace hB107 := hB107.ext hE
                replace hB129 := hB129.ext hE
                replace hT := hT.ext hE
                replace hLs := hLs.ext hE
                replace hG := fun r hr => (hG r hr).ext hE
                replace hTr_w13 := hTr_w13.trans (Kp.ext hE)
                replace hS0 := hS0.ext hE
                replace hS1 := hS1.ext hE
                replace hRx := hRx.ext hE
                replace hS0p := hS0p.ext hE
                replace hS1p := hS1p.ext hE
                replace hTr_w60 := hTr_w60.trans (Kp.ext hE)
                replace hP := hP.ext hE
                replace hTr_w86 := hTr_w86.trans (Kp.ext hE)
                replace hS0q := hS0q.ext hE
                replace hS1q := hS1q.ext hE
                replace hTr_w94 := hTr_w94.trans (Kp.ext hE)
                replace hLl := hLl.ext hE
                replace hTr_w99 := hTr_w99.trans (Kp.ext hE)
                replace hOa := hOa.ext hE
                replace hTr_w121 := hTr_w121.trans (Kp.ext hE)
                refine oblK_n rfl ?_
                refine opk_norm [(66, .bool (false)), (71, .bool (false))] ⟨rfl, rfl, trivial⟩ (fun ρq => ?_)
                refine o_pickF (v := .bool (false)) rfl (rfl) rfl ?_
                exact ⟨Kp.refl _ _, rfl⟩
              · refine oblK_post rfl rfl (fun w145k vs lo hi hE hkn hap => ?_)
                have hEs := hE.size
                replace hK := hK.trans (Kp.ext hE)
                replace hB21 := hB21.ext hE
                replace hBsp := hBsp.ext hE
                replace hBsq := hBsq.ext hE
                replace hB107 := hB107.ext hE
                replace hB129 := hB129.ext hE
                replace hT := hT.ext hE
                replace hLs := hLs.ext hE
                replace hG := fun r hr => (hG r hr).ext hE
                replace hTr_w13 := hTr_w13.trans (Kp.ext hE)
                replace hS0 := hS0.ext hE
                replace hS1 := hS1.ext hE
                replace hRx := hRx.ext hE
                replace hS0p := hS0p.ext hE
                replace hS1p := hS1p.ext hE
                replace hTr_w60 := hTr_w60.trans (Kp.ext hE)
                replace hP := hP.ext hE
                replace hTr_w86 := hTr_w86.trans (Kp.ext hE)
                replace hS0q := hS0q.ext hE
                replace hS1q := hS1q.ext hE
                replace hTr_w94 := hTr_w94.trans (Kp.ext hE)
                replace hLl := hLl.ext hE
                replace hTr_w99 := hTr_w99.trans (Kp.ext hE)
                replace hOa := hOa.ext hE
                replace hTr_w121 := hTr_w121.trans (Kp.ext hE)
                refine oblK_n rfl ?_
                refine opk_norm [(72, .bool (false))] ⟨rfl, trivial⟩ (fun ρq => ?_)
                refine o_move (v := .bool (false)) rfl ?_
                exact ⟨Kp.refl _ _, rfl⟩
              · refine oblK_post rfl rfl (fun w145k vs lo hi hE hkn hap => ?_)
                have hEs := hE.size
                replace hK := hK.trans (Kp.ext hE)
                replace hB21 := hB21.ext hE
                replace hBsp := hBsp.ext hE
                replace hBsq := hBsq.ext hE
                replace hB107 := hB107.ext hE
                replace hB129 := hB129.ext hE
                replace hT := hT.ext hE
                replace hLs := hLs.ext hE
                replace hG := fun r hr => (hG r hr).ext hE
                replace hTr_w13 := hTr_w13.trans (Kp.ext hE)
                replace hS0 := hS0.ext hE
                replace hS1 := hS1.ext hE
                replace hRx := hRx.ext hE
                replace hS0p := hS0p.ext hE
                replace hS1p := hS1p.ext hE
                replace hTr_w60 := hTr_w60.trans (Kp.ext hE)
                replace hP := hP.ext hE
                replace hTr_w86 := hTr_w86.trans (Kp.ext hE)
                replace hS0q := hS0q.ext hE
                replace hS1q := hS1q.ext hE
                replace hTr_w94 := hTr_w94.trans (Kp.ext hE)
                replace hLl := hLl.ext hE
                replace hTr_w99 := hTr_w99.trans (Kp.ext hE)
                replace hOa := hOa.ext hE
                replace hTr_w121 := hTr_w121.trans (Kp.ext hE)
                refine oblK_n (want_t rfl (rfl)) ?_
                refine opk_norm [(9, .pointer (some ⟨b102, 0, none⟩)), (73, .bool (false))] ⟨rfl, rfl, trivial⟩ (fun ρq => ?_)
                refine o_loadBA (ds := [.int .i64 (x9.b), .int .i64 (x9.m), .int .i64 (0), .slice aol x9.s.xs.length cl9]) rfl hB107 tyA32 rfl rfl ?_
                exact ⟨Kp.refl _ _, rfl⟩
              · refine oblK_post rfl rfl (fun w145k vs lo hi hE hkn hap => ?_)
                have hEs := hE.size
                replace hK := hK.trans (Kp.ext hE)
                replace hB21 := hB21.ext hE
                replace hBsp := hBsp.ext hE
                replace hBsq := hBsq.ext hE
                replace hB107 := hB107.ext hE
                replace hB129 := hB129.ext hE
                replace hT := hT.ext hE
                replace hLs := hLs.ext hE
                replace hG := fun r hr => (hG r hr).ext hE
                replace hTr_w13 := hTr_w13.trans (Kp.ext hE)
                replace hS0 := hS0.ext hE
                replace hS1 := hS1.ext hE
                replace hRx := hRx.ext hE
                replace hS0p := hS0p.ext hE
                replace hS1p := hS1p.ext hE
                replace hTr_w60 := hTr_w60.trans (Kp.ext hE)
                replace hP := hP.ext hE
                replace hTr_w86 := hTr_w86.trans (Kp.ext hE)
                replace hS0q := hS0q.ext hE
                replace hS1q := hS1q.ext hE
                replace hTr_w94 := hTr_w94.trans (Kp.ext hE)
                replace hLl := hLl.ext hE
                replace hTr_w99 := hTr_w99.trans (Kp.ext hE)
                replace hOa := hOa.ext hE
                replace hTr_w121 := hTr_w121.trans (Kp.ext hE)
                refine oblK_n (want_t rfl (rfl)) ?_
                refine opk_norm [(73, .bool (false)), (74, .agg #[.int .i64 (x9.b), .int .i64 (x9.m), .int .i64 (0), .slice aol x9.s.xs.length cl9])] ⟨rfl, rfl, trivial⟩ (fun ρq => ?_)
                refine o_call (of16_ok x9.b x9.m 0 _ _ x9.s.xs _ _ rfl (by omega) hLl) Tryd.call13 (fun v152 w153 hk154 hv155 => ?_)
                have hl_b16_w153 := hB21.lt
                have hl_bsp_w153 := hBsp.lt
                have hl_bsq_w153 := hBsq.lt
                have hl_b102_w153 := hB107.lt
                have hl_b124_w153 := hB129.lt
                have hs_w153 := hK.size
                have hsk_w153 := hk154.size
                obtain ⟨nob, aob, cob, rfl, hnob, hOb⟩ := hv155
                replace hK := hK.trans (Kp.ext hk154)
                replace hB21 := hB21.ext hk154
                replace hBsp := hBsp.ext hk154
                replace hBsq := hBsq.ext hk154
                replace hB107 := hB107.ext hk154
                replace hB129 := hB129.ext hk154
                replace hT := hT.ext hk154
                replace hLs := hLs.ext hk154
                replace hG := fun r hr => (hG r hr).ext hk154
                replace hTr_w13 := hTr_w13.trans (Kp.ext hk154)
                replace hS0 := hS0.ext hk154
                replace hS1 := hS1.ext hk154
                replace hRx := hRx.ext hk154
                replace hS0p := hS0p.ext hk154
                replace hS1p := hS1p.ext hk154
                replace hTr_w60 := hTr_w60.trans (Kp.ext hk154)
                replace hP := hP.ext hk154
                replace hTr_w86 := hTr_w86.trans (Kp.ext hk154)
                replace hS0q := hS0q.ext hk154
                replace hS1q := hS1q.ext hk154
                replace hTr_w94 := hTr_w94.trans (Kp.ext hk154)
                replace hLl := hLl.ext hk154
                replace hTr_w99 := hTr_w99.trans (Kp.ext hk154)
                replace hOa := hOa.ext hk154
                replace hTr_w121 := hTr_w121.trans (Kp.ext hk154)
                subst hnob
                exact ⟨hk154, rfl, hEs, hOb.mono (fun b hb h => ⟨h, hb⟩)⟩
              · refine oblK_post rfl rfl (fun w145k vs lo hi hE hkn hap => ?_)
                have hEs := hE.size
                replace hK := hK.trans (Kp.ext hE)
                replace hB21 := hB21.ext hE
                replace hBsp := hBsp.ext hE
                replace hBsq := hBsq.ext hE
                replace hB107 := hB107.ext hE
                replace hB129 := hB129.ext hE
                replace hT := hT.ext hE
                replace hLs := hLs.ext hE
                replace hG := fun r hr => (hG r hr).ext hE
                replace hTr_w13 := hTr_w13.trans (Kp.ext hE)
                replace hS0 := hS0.ext hE
                replace hS1 := hS1.ext hE
                replace hRx := hRx.ext hE
                replace hS0p := hS0p.ext hE
                replace hS1p := hS1p.ext hE
                replace hTr_w60 := hTr_w60.trans (Kp.ext hE)
                replace hP := hP.ext hE
                replace hTr_w86 := hTr_w86.trans (Kp.ext hE)
                replace hS0q := hS0q.ext hE
                replace hS1q := hS1q.ext hE
                replace hTr_w94 := hTr_w94.trans (Kp.ext hE)
                replace hLl := hLl.ext hE
                replace hTr_w99 := hTr_w99.trans (Kp.ext hE)
                replace hOa := hOa.ext hE
                replace hTr_w121 := hTr_w121.trans (Kp.ext hE)
                refine oblK_n (want_t rfl (rfl)) ?_
                refine opk_norm [(12, .pointer (some ⟨b124, 0, none⟩)), (73, .bool (false))] ⟨rfl, rfl, trivial⟩ (fun ρq => ?_)
                refine o_loadBA (ds := [.int .i64 (x9.b), .int .i64 (x9.m), .int .i64 (0), .slice aoa x9.s.xs.length coa]) rfl hB129 tyA41 rfl rfl ?_
                exact ⟨Kp.refl _ _, rfl⟩
              have hsE2 := hE149.size
              replace hK := hK.trans (Kp.ext hE149)
              replace hB21 := hB21.ext hE149
              replace hBsp := hBsp.ext hE149
              replace hBsq := hBsq.ext hE149
              replace hB107 := hB107.ext hE149
              replace hB129 := hB129.ext hE149
              replace hT := hT.ext hE149
              replace hLs := hLs.ext hE149
              replace hG := fun r hr => (hG r hr).ext hE149
              replace hTr_w13 := hTr_w13.trans (Kp.ext hE149)
              replace hS0 := hS0.ext hE149
              replace hS1 := hS1.ext hE149
              replace hRx := hRx.ext hE149
              replace hS0p := hS0p.ext hE149
              replace hS1p := hS1p.ext hE149
              replace hTr_w60 := hTr_w60.trans (Kp.ext hE149)
              replace hP := hP.ext hE149
              replace hTr_w86 := hTr_w86.trans (Kp.ext hE149)
              replace hS0q := hS0q.ext hE149
              replace hS1q := hS1q.ext hE149
              replace hTr_w94 := hTr_w94.trans (Kp.ext hE149)
              replace hLl := hLl.ext hE149
              replace hTr_w99 := hTr_w99.trans (Kp.ext hE149)
              replace hOa := hOa.ext hE149
              replace hTr_w121 := hTr_w121.trans (Kp.ext hE149)
              obtain ⟨-, ⟨⟨hv11_t, hlo11_t, hOb_t⟩, hq1_11, hq2_11, hq3_11⟩, -, -, -, -, -, -, -, -, -, -, -, -⟩ := hkn150
              obtain ⟨aob, cob, hv11, hlo11, hOb⟩ : ∃ (aob : Option Addr) (cob : Nat), (vs146 11 = .agg #[.int .i64 (x9.b), .int .i64 (x9.m), .int .i64 (0), .slice aob x9.s.xs.length cob]) ∧ (w135.heap.size ≤ (lo147 11)) ∧ (Rd (fun b => (lo147 11) ≤ b ∧ b < (hi148 11)) w145 2 (.slice aob x9.s.xs.length cob) ((x9.s.xs).map encP)) := ⟨_, _, hv11_t, hlo11_t, hOb_t⟩
              clear hOb_t hlo11_t hv11_t
              replace hq1_11 : w135.heap.size ≤ lo147 11 := hq1_11
              replace hq2_11 : lo147 11 ≤ hi148 11 := hq2_11
              replace hq3_11 : hi148 11 ≤ w145.heap.size := hq3_11
              refine rl_norm [(0, .slice al ls.length cl), (4, .pointer (some ⟨b16, 0, none⟩)), (5, .int .i64 ((i : Int))), (7, .slice ((some ⟨bsp, 0, none⟩)) 2 2), (8, .slice ((some ⟨bsq, 0, none⟩)) 2 2), (10, .int .u64 ((i : Int) + 1)), (73, .bool (false)), (75, .agg #[.int .i64 (x9.b), .int .i64 (x9.m), .int .i64 (0), .slice aob x9.s.xs.length cob]), (76, .agg #[.int .i64 (x9.b), .int .i64 (x9.m), .int .i64 (0), .slice aoa x9.s.xs.length coa])] ⟨rfl, rfl, rfl, rfl, rfl, rfl, rfl, hv11, rfl, trivial⟩ (fun ρr144q => ?_)
              refine rl (o_call (same_to x9.b x9.m 0 _ _ _ _ x9.s.xs _ _ _ rfl rfl (by omega) hOb hOa) Tryd.call14 (fun v156 w157 hk158 hv159 => ?_)) (want_t rfl (rfl))
              have hl_b16_w157 := hB21.lt
              have hl_bsp_w157 := hBsp.lt
              have hl_bsq_w157 := hBsq.lt
              have hl_b102_w157 := hB107.lt
              have hl_b124_w157 := hB129.lt
              have hs_w157 := hK.size
              have hsk_w157 := hk158.size
              obtain rfl := hv159
              replace hK := hK.trans (Kp.ext hk158)
              replace hB21 := hB21.ext hk158
              replace hBsp := hBsp.ext hk158
              replace hBsq := hBsq.ext hk158
              replace hB107 := hB107.ext hk158
              replace hB129 := hB129.ext hk158
              replace hT := hT.ext hk158
              replace hLs := hLs.ext hk158
              replace hG := fun r hr => (hG r hr).ext hk158
              replace hTr_w13 := hTr_w13.trans (Kp.ext hk158)
              replace hS0 := hS0.ext hk158
              replace hS1 := hS1.ext hk158
              replace hRx := hRx.ext hk158
              replace hS0p := hS0p.ext hk158
              replace hS1p := hS1p.ext hk158
              replace hTr_w60 := hTr_w60.trans (Kp.ext hk158)
              replace hP := hP.ext hk158
              replace hTr_w86 := hTr_w86.trans (Kp.ext hk158)
              replace hS0q := hS0q.ext hk158
              replace hS1q := hS1q.ext hk158
              replace hTr_w94 := hTr_w94.trans (Kp.ext hk158)
              replace hLl := hLl.ext hk158
              replace hTr_w99 := hTr_w99.trans (Kp.ext hk158)
              replace hOa := hOa.ext hk158
              replace hTr_w121 := hTr_w121.trans (Kp.ext hk158)
              replace hOb := hOb.ext hk158
              refine rl (o_not rfl ?_) (want_t rfl (rfl))
              refine rl (o_pickF (v := .bool (false)) rfl (rfl) rfl ?_) rfl
              refine rl (o_move (v := .bool (false)) rfl ?_) rfl
              refine rl (o_move (v := .slice ((some ⟨bsp, 0, none⟩)) 2 2) rfl ?_) (want_t rfl (rfl))
              refine rl (o_len rfl Tryd.underlying33 ?_) (want_t rfl (rfl))
              refine rl (o_neq rfl rfl ?_) (want_t rfl (rfl))
              refine rl (o_pickF (v := .bool (false)) rfl (rfl) rfl ?_) rfl
              refine rl (o_move (v := .bool (false)) rfl ?_) rfl
              refine rl (o_move (v := .slice ((some ⟨bsq, 0, none⟩)) 2 2) rfl ?_) (want_t rfl (rfl))
              refine rl (o_len rfl Tryd.underlying33 ?_) (want_t rfl (rfl))
              refine rl (o_neq rfl rfl ?_) (want_t rfl (rfl))
              refine rl (o_pickF (v := .bool (false)) rfl (rfl) rfl ?_) rfl
              refine rl_nil ?_
              refine cw_condF rfl ?_
              refine cw_skip ?_
              refine k_tn ?_
              refine cw_norm [(0, .slice al ls.length cl), (4, .pointer (some ⟨b16, 0, none⟩)), (5, .int .i64 ((i : Int))), (7, .slice ((some ⟨bsp, 0, none⟩)) 2 2), (8, .slice ((some ⟨bsq, 0, none⟩)) 2 2), (10, .int .u64 ((i : Int) + 1))] ⟨rfl, rfl, rfl, rfl, rfl, rfl, trivial⟩ (fun ρn160 => ?_)
              refine cw_seq ?_
              refine cw_region rfl ?_
              refine rl (o_move (v := .int .i64 ((i : Int))) rfl ?_) rfl
              refine rl (o_add64 (a := (i : Int)) (b := 1) rfl rfl (by omega) (by omega) ?_) rfl
              refine rl (o_remE 1 rfl rfl (by decide) (by omega) (by omega) ?_) rfl
              refine rl (o_assign (v := .int .i64 (1)) rfl ?_) rfl
              refine rl_nil ?_
              refine k_tn ?_
              refine cw_norm [(0, .slice al ls.length cl), (4, .pointer (some ⟨b16, 0, none⟩)), (5, .int .i64 ((i : Int))), (7, .slice ((some ⟨bsp, 0, none⟩)) 2 2), (8, .slice ((some ⟨bsq, 0, none⟩)) 2 2), (10, .int .u64 ((i : Int) + 1)), (13, .int .i64 (1))] ⟨rfl, rfl, rfl, rfl, rfl, rfl, rfl, trivial⟩ (fun ρn161 => ?_)
              obtain ⟨bz162, oz162, yz162, haoz162, hyez162, hAz162, hlt_bz162, hF_bz162⟩ := Rd.getF hLs i (by omega)
              replace hF_bz162 : bz162 < w.heap.size := hF_bz162
              obtain hxy : x9 = yz162 := Option.some.inj (hxe.symm.trans hyez162)
              subst hxy
              have ht_hTr_w13_d3 := hTr_w13.size
              have ht_hTr_w60_d3 := hTr_w60.size
              have ht_hTr_w86_d3 := hTr_w86.size
              have ht_hTr_w94_d3 := hTr_w94.size
              have ht_hTr_w99_d3 := hTr_w99.size
              have ht_hTr_w121_d3 := hTr_w121.size
              have hl_b16_d3 := hB21.lt
              have hl_bsp_d3 := hBsp.lt
              have hl_bsq_d3 := hBsq.lt
              have hl_b102_d3 := hB107.lt
              have hl_b124_d3 := hB129.lt
              refine cw_norm [(0, .slice al ls.length cl), (4, .pointer (some ⟨b16, 0, none⟩)), (5, .int .i64 ((i : Int))), (7, .slice ((some ⟨bsp, 0, none⟩)) 2 2), (8, .slice ((some ⟨bsq, 0, none⟩)) 2 2), (10, .int .u64 ((i : Int) + 1)), (13, .int .i64 (1))] ⟨rfl, rfl, rfl, rfl, rfl, rfl, rfl, trivial⟩ (fun ρr173 => ?_)
              have hsr3 := hK.size
              refine cw_drawnK (fun _ => False) 28 [.val (.slice ((some ⟨bsq, 0, none⟩)) 2 2), .val (.int .i64 (1)), .val (.int .i64 (0)), .val (.pointer (some ⟨bsq, 0, none⟩)), .val (.slice as0q s0.length cs0q), .val (.string (strOf s0)), .val (.slice ((some ⟨bsp, 0, none⟩)) 2 2), .val (.int .i64 (1)), .val (.int .i64 (0)), .val (.pointer (some ⟨bsp, 0, none⟩)), .val (.slice as0p s0.length cs0p), .val (.string (strOf s0)), .val (.bool (false)), .val (.bool (false)), .val (.slice ((some ⟨bsq, 0, none⟩)) 2 2), .val (.int .i64 (1)), .val (.pointer (some ⟨bsq, 1, none⟩)), .val (.slice as1q X1.length cs1q), .val (.string (strOf X1)), .val (.slice al ls.length cl), .val (.int .i64 ((i : Int))), .val (.pointer (some ⟨bz162, oz162 + i * 4, none⟩)), .val (.agg #[.int .i64 (x9.b), .int .i64 (x9.m), .int .i64 (x9.c), .slice x9.s.ao x9.s.xs.length x9.s.c]), .val (.int .u64 ((i : Int) + 1)), .fact (fun c wq => (cv c 0) = .slice (sAo (cv c 0)) X1.length (sCap (cv c 0)) ∧ (w157.heap.size ≤ (ca c 0)) ∧ (Rd (fun b => (ca c 0) ≤ b ∧ b < (ce c 0)) wq 1 (.slice (sAo (cv c 0)) X1.length (sCap (cv c 0))) ((X1).map encB))), .val (.string (strOf X1))] [.val (.slice ((some ⟨bsq, 0, none⟩)) 2 2), .val (.int .i64 (1)), .val (.int .i64 (0)), .val (.pointer (some ⟨bsq, 0, none⟩)), .val (.slice as0q s0.length cs0q), .val (.string (strOf s0)), .val (.slice ((some ⟨bsp, 0, none⟩)) 2 2), .val (.int .i64 (1)), .val (.int .i64 (0)), .val (.pointer (some ⟨bsp, 0, none⟩)), .val (.slice as0p s0.length cs0p), .val (.string (strOf s0)), .val (.bool (false)), .val (.bool (false)), .val (.slice ((some ⟨bsq, 0, none⟩)) 2 2), .val (.int .i64 (1)), .val (.pointer (some ⟨bsq, 1, none⟩)), .val (.slice as1q X1.length cs1q), .val (.string (strOf X1)), .val (.slice al ls.length cl), .val (.int .i64 ((i : Int))), .val (.pointer (some ⟨bz162, oz162 + i * 4, none⟩)), .val (.agg #[.int .i64 (x9.b), .int .i64 (x9.m), .int .i64 (x9.c), .slice x9.s.ao x9.s.xs.length x9.s.c]), .val (.int .u64 ((i : Int) + 1)), .fact (fun c wq => (cv c 0) = .slice (sAo (cv c 0)) X1.length (sCap (cv c 0)) ∧ (w157.heap.size ≤ (ca c 0)) ∧ (Rd (fun b => (ca c 0) ≤ b ∧ b < (ce c 0)) wq 1 (.slice (sAo (cv c 0)) X1.length (sCap (cv c 0))) ((X1).map encB))), .val (.string (strOf X1))] [[], [], [1], [0, 1, 2], [0, 1, 2, 3], [0, 1, 2, 3, 4], [], [], [7], [6, 7, 8], [6, 7, 8, 9], [6, 7, 8, 9, 10], [0, 1, 2, 3, 4, 5, 6, 7, 8, 9, 10, 11], [0, 1, 2, 3, 4, 5, 6, 7, 8, 9, 10, 11, 12], [0, 1, 2, 3, 4, 5, 6, 7, 8, 9, 10, 11, 12, 13], [0, 1, 2, 3, 4, 5, 6, 7, 8, 9, 10, 11, 12, 13], [0, 1, 2, 3, 4, 5, 6, 7, 8, 9, 10, 11, 12, 13, 14, 15], [0, 1, 2, 3, 4, 5, 6, 7, 8, 9, 10, 11, 12, 13, 14, 15, 16], [0, 1, 2, 3, 4, 5, 6, 7, 8, 9, 10, 11, 12, 13, 14, 15, 16, 17], [0, 1, 2, 3, 4, 5, 6, 7, 8, 9, 10, 11, 12, 13], [0, 1, 2, 3, 4, 5, 6, 7, 8, 9, 10, 11, 12, 13], [0, 1, 2, 3, 4, 5, 6, 7, 8, 9, 10, 11, 12, 13, 19, 20], [0, 1, 2, 3, 4, 5, 6, 7, 8, 9, 10, 11, 12, 13, 19, 20, 21], [0, 1, 2, 3, 4, 5, 6, 7, 8, 9, 10, 11, 12, 13], [0, 1, 2, 3, 4, 5, 6, 7, 8, 9, 10, 11, 12, 13, 19, 20, 21, 22, 23], [0, 1, 2, 3, 4, 5, 6, 7, 8, 9, 10, 11, 12, 13, 19, 20, 21, 22, 23, 24], [0, 1, 2, 3, 4, 5, 6, 7, 8, 9, 10, 11, 12, 13, 14, 15, 16, 17, 18, 19, 20, 21, 22, 23, 24, 25], [0, 1, 2, 3, 4, 5, 6, 7, 8, 9, 10, 11, 12, 13, 14, 15, 16, 17, 18, 19, 20, 21, 22, 23, 24, 25, 26]] 26 mixed (by kernel_rfl) ⟨upK_val, upK_val, upK_val, upK_val, upK_val, upK_val, upK_val, upK_val, upK_val, upK_val, upK_val, upK_val, upK_val, upK_val, upK_val, upK_val, upK_val, upK_val, upK_val, upK_val, upK_val, upK_val, upK_val, upK_val, upK_no rfl rfl (fun c wq wq' ⟨hv, hlo24, hJ⟩ hk => ⟨hv, hlo24, hJ.ext hk⟩), upK_val, trivial⟩ ⟨⟨⟨⟨⟨⟨⟨⟨⟨⟨⟨⟨⟨⟨⟨⟨⟨⟨⟨⟨⟨⟨⟨⟨⟨⟨trivial, ?_⟩, ?_⟩, ?_⟩, ?_⟩, ?_⟩, ?_⟩, ?_⟩, ?_⟩, ?_⟩, ?_⟩, ?_⟩, ?_⟩, ?_⟩, ?_⟩, ?_⟩, ?_⟩, ?_⟩, ?_⟩, ?_⟩, ?_⟩, ?_⟩, ?_⟩, ?_⟩, ?_⟩, ?_⟩, ?_⟩ (fun w174 vs175 lo176 hi177 hE178 hkn179 hap180 => ?_)
              · refine oblK_post rfl rfl (fun w174k vs lo hi hE hkn hap => ?_)
                have hEs := hE.size
                replace hK := hK.trans (Kp.ext hE)
                replace hB21 := hB21.ext hE
                replace hBsp := hBsp.ext hE
                replace hBsq := hBsq.ext hE
                replace hB107 := hB107.ext hE
                replace hB129 := hB129.ext hE
                replace hT := hT.ext hE
                replace hLs := hLs.ext hE
                replace hG := fun r hr => (hG r hr).ext hE
                replace hTr_w13 := hTr_w13.trans (Kp.ext hE)
                replace hS0 := hS0.ext hE
                replace hS1 := hS1.ext hE
                replace hRx := hRx.ext hE
                replace hS0p := hS0p.ext hE
                replace hS1p := hS1p.ext hE
                replace hTr_w60 := hTr_w60.trans (Kp.ext hE)
                replace hP := hP.ext hE
                replace hTr_w86 := hTr_w86.trans (Kp.ext hE)
                replace hS0q := hS0q.ext hE
                replace hS1q := hS1q.ext hE
                replace hTr_w94 := hTr_w94.trans (Kp.ext hE)
                replace hLl := hLl.ext hE
                replace hTr_w99 := hTr_w99.trans (Kp.ext hE)
                replace hOa := hOa.ext hE
                replace hTr_w121 := hTr_w121.trans (Kp.ext hE)
                replace hOb := hOb.ext hE
                replace hAz162 := At.ext hAz162 hE
                refine oblK_n rfl ?_
                refine opk_norm [(8, .slice ((some ⟨bsq, 0, none⟩)) 2 2)] ⟨rfl, trivial⟩ (fun ρq => ?_)
                refine o_move (v := .slice ((some ⟨bsq, 0, none⟩)) 2 2) rfl ?_
                exact ⟨Kp.refl _ _, rfl⟩
              · refine oblK_post rfl rfl (fun w174k vs lo hi hE hkn hap => ?_)
                have hEs := hE.size
                replace hK := hK.trans (Kp.ext hE)
                replace hB21 := hB21.ext hE
                replace hBsp := hBsp.ext hE
                replace hBsq := hBsq.ext hE
                replace hB107 := hB107.ext hE
                replace hB129 := hB129.ext hE
                replace hT := hT.ext hE
                replace hLs := hLs.ext hE
                replace hG := fun r hr => (hG r hr).ext hE
                replace hTr_w13 := hTr_w13.trans (Kp.ext hE)
                replace hS0 := hS0.ext hE
                replace hS1 := hS1.ext hE
                replace hRx := hRx.ext hE
                replace hS0p := hS0p.ext hE
                replace hS1p := hS1p.ext hE
                replace hTr_w60 := hTr_w60.trans (Kp.ext hE)
                replace hP := hP.ext hE
                replace hTr_w86 := hTr_w86.trans (Kp.ext hE)
                replace hS0q := hS0q.ext hE
                replace hS1q := hS1q.ext hE
                replace hTr_w94 := hTr_w94.trans (Kp.ext hE)
                replace hLl := hLl.ext hE
                replace hTr_w99 := hTr_w99.trans (Kp.ext hE)
                replace hOa := hOa.ext hE
                replace hTr_w121 := hTr_w121.trans (Kp.ext hE)
                replace hOb := hOb.ext hE
                replace hAz162 := At.ext hAz162 hE
                refine oblK_n rfl ?_
                refine opk_norm [(13, .int .i64 (1))] ⟨rfl, trivial⟩ (fun ρq => ?_)
                refine o_move (v := .int .i64 (1)) rfl ?_
                exact ⟨Kp.refl _ _, rfl⟩
              · refine oblK_post rfl rfl (fun w174k vs lo hi hE hkn hap => ?_)
                have hEs := hE.size
                replace hK := hK.trans (Kp.ext hE)
                replace hB21 := hB21.ext hE
                replace hBsp := hBsp.ext hE
                replace hBsq := hBsq.ext hE
                replace hB107 := hB107.ext hE
                replace hB129 := hB129.ext hE
                replace hT := hT.ext hE
                replace hLs := hLs.ext hE
                replace hG := fun r hr => (hG r hr).ext hE
                replace hTr_w13 := hTr_w13.trans (Kp.ext hE)
                replace hS0 := hS0.ext hE
                replace hS1 := hS1.ext hE
                replace hRx := hRx.ext hE
                replace hS0p := hS0p.ext hE
                replace hS1p := hS1p.ext hE
                replace hTr_w60 := hTr_w60.trans (Kp.ext hE)
                replace hP := hP.ext hE
                replace hTr_w86 := hTr_w86.trans (Kp.ext hE)
                replace hS0q := hS0q.ext hE
                replace hS1q := hS1q.ext hE
                replace hTr_w94 := hTr_w94.trans (Kp.ext hE)
                replace hLl := hLl.ext hE
                replace hTr_w99 := hTr_w99.trans (Kp.ext hE)
                replace hOa := hOa.ext hE
                replace hTr_w121 := hTr_w121.trans (Kp.ext hE)
                replace hOb := hOb.ext hE
                replace hAz162 := At.ext hAz162 hE
                refine oblK_n rfl ?_
                refine opk_norm [(94, .int .i64 (1))] ⟨rfl, trivial⟩ (fun ρq => ?_)
                refine o_sub64 (a := 1) (b := 1) rfl rfl (by omega) (by omega) ?_
                exact ⟨Kp.refl _ _, rfl⟩
              · refine oblK_post rfl rfl (fun w174k vs lo hi hE hkn hap => ?_)
                have hEs := hE.size
                replace hK := hK.trans (Kp.ext hE)
                replace hB21 := hB21.ext hE
                replace hBsp := hBsp.ext hE
                replace hBsq := hBsq.ext hE
                replace hB107 := hB107.ext hE
                replace hB129 := hB129.ext hE
                replace hT := hT.ext hE
                replace hLs := hLs.ext hE
                replace hG := fun r hr => (hG r hr).ext hE
                replace hTr_w13 := hTr_w13.trans (Kp.ext hE)
                replace hS0 := hS0.ext hE
                replace hS1 := hS1.ext hE
                replace hRx := hRx.ext hE
                replace hS0p := hS0p.ext hE
                replace hS1p := hS1p.ext hE
                replace hTr_w60 := hTr_w60.trans (Kp.ext hE)
                replace hP := hP.ext hE
                replace hTr_w86 := hTr_w86.trans (Kp.ext hE)
                replace hS0q := hS0q.ext hE
                replace hS1q := hS1q.ext hE
                replace hTr_w94 := hTr_w94.trans (Kp.ext hE)
                replace hLl := hLl.ext hE
                replace hTr_w99 := hTr_w99.trans (Kp.ext hE)
                replace hOa := hOa.ext hE
                replace hTr_w121 := hTr_w121.trans (Kp.ext hE)
                replace hOb := hOb.ext hE
                replace hAz162 := At.ext hAz162 hE
                refine oblK_n rfl ?_
                refine opk_norm [(93, .slice ((some ⟨bsq, 0, none⟩)) 2 2), (95, .int .i64 (0))] ⟨rfl, rfl, trivial⟩ (fun ρq => ?_)
                refine o_idxAt 0 rfl rfl Tryd.underlying33 Tryd.sizeOf24 rfl rfl (by decide) ?_
                exact ⟨Kp.refl _ _, rfl⟩
              · refine oblK_post rfl rfl (fun w174k vs lo hi hE hkn hap => ?_)
                have hEs := hE.size
                replace hK := hK.trans (Kp.ext hE)
                replace hB21 := hB21.ext hE
                replace hBsp := hBsp.ext hE
                replace hBsq := hBsq.ext hE
                replace hB107 := hB107.ext hE
                replace hB129 := hB129.ext hE
                replace hT := hT.ext hE
                replace hLs := hLs.ext hE
                replace hG := fun r hr => (hG r hr).ext hE
                replace hTr_w13 := hTr_w13.trans (Kp.ext hE)
                replace hS0 := hS0.ext hE
                replace hS1 := hS1.ext hE
                replace hRx := hRx.ext hE
                replace hS0p := hS0p.ext hE
                replace hS1p := hS1p.ext hE
                replace hTr_w60 := hTr_w60.trans (Kp.ext hE)
                replace hP := hP.ext hE
                replace hTr_w86 := hTr_w86.trans (Kp.ext hE)
                replace hS0q := hS0q.ext hE
                replace hS1q := hS1q.ext hE
                replace hTr_w94 := hTr_w94.trans (Kp.ext hE)
                replace hLl := hLl.ext hE
                replace hTr_w99 := hTr_w99.trans (Kp.ext hE)
                replace hOa := hOa.ext hE
                replace hTr_w121 := hTr_w121.trans (Kp.ext hE)
                replace hOb := hOb.ext hE
                replace hAz162 := At.ext hAz162 hE
                refine oblK_n rfl ?_
                refine opk_norm [(96, .pointer (some ⟨bsq, 0, none⟩))] ⟨rfl, trivial⟩ (fun ρq => ?_)
                refine o_loadB (v := .slice as0q s0.length cs0q) rfl hBsq tyS24 rfl ?_
                exact ⟨Kp.refl _ _, rfl⟩
              · refine oblK_post rfl rfl (fun w174k vs lo hi hE hkn hap => ?_)
                have hEs := hE.size
                replace hK := hK.trans (Kp.ext hE)
                replace hB21 := hB21.ext hE
                replace hBsp := hBsp.ext hE
                replace hBsq := hBsq.ext hE
                replace hB107 := hB107.ext hE
                replace hB129 := hB129.ext hE
                replace hT := hT.ext hE
                replace hLs := hLs.ext hE
                replace hG := fun r hr => (hG r hr).ext hE
                replace hTr_w13 := hTr_w13.trans (Kp.ext hE)
                replace hS0 := hS0.ext hE
                replace hS1 := hS1.ext hE
                replace hRx := hRx.ext hE
                replace hS0p := hS0p.ext hE
                replace hS1p := hS1p.ext hE
                replace hTr_w60 := hTr_w60.trans (Kp.ext hE)
                replace hP := hP.ext hE
                replace hTr_w86 := hTr_w86.trans (Kp.ext hE)
                replace hS0q := hS0q.ext hE
                replace hS1q := hS1q.ext hE
                replace hTr_w94 := hTr_w94.trans (Kp.ext hE)
                replace hLl := hLl.ext hE
                replace hTr_w99 := hTr_w99.trans (Kp.ext hE)
                replace hOa := hOa.ext hE
                replace hTr_w121 := hTr_w121.trans (Kp.ext hE)
                replace hOb := hOb.ext hE
                replace hAz162 := At.ext hAz162 hE
                refine oblK_n rfl ?_
                refine opk_norm [(97, .slice as0q s0.length cs0q)] ⟨rfl, trivial⟩ (fun ρq => ?_)
                refine o_strOf (xs := s0) rfl Tryd.underlying24 Tryd.underlying5 Tryd.underlying9 hS0q ?_
                exact ⟨Kp.refl _ _, rfl⟩
              · refine oblK_post rfl rfl (fun w174k vs lo hi hE hkn hap => ?_)
                have hEs := hE.size
                replace hK := hK.trans (Kp.ext hE)
                replace hB21 := hB21.ext hE
                replace hBsp := hBsp.ext hE
                replace hBsq := hBsq.ext hE
                replace hB107 := hB107.ext hE
                replace hB129 := hB129.ext hE
                replace hT := hT.ext hE
                replace hLs := hLs.ext hE
                replace hG := fun r hr => (hG r hr).ext hE
                replace hTr_w13 := hTr_w13.trans (Kp.ext hE)
                replace hS0 := hS0.ext hE
                replace hS1 := hS1.ext hE
                replace hRx := hRx.ext hE
                replace hS0p := hS0p.ext hE
                replace hS1p := hS1p.ext hE
                replace hTr_w60 := hTr_w60.trans (Kp.ext hE)
                replace hP := hP.ext hE
                replace hTr_w86 := hTr_w86.trans (Kp.ext hE)
                replace hS0q := hS0q.ext hE
                replace hS1q := hS1q.ext hE
                replace hTr_w94 := hTr_w94.trans (Kp.ext hE)
                replace hLl := hLl.ext hE
                replace hTr_w99 := hTr_w99.trans (Kp.ext hE)
                replace hOa := hOa.ext hE
                replace hTr_w121 := hTr_w121.trans (Kp.ext hE)
                replace hOb := hOb.ext hE
                replace hAz162 := At.ext hAz162 hE
                refine oblK_n rfl ?_
                refine opk_norm [(7, .slice ((some ⟨bsp, 0, none⟩)) 2 2)] ⟨rfl, trivial⟩ (fun ρq => ?_)
                refine o_move (v := .slice ((some ⟨bsp, 0, none⟩)) 2 2) rfl ?_
                exact ⟨Kp.refl _ _, rfl⟩
              · refine oblK_post rfl rfl (fun w174k vs lo hi hE hkn hap => ?_)
                have hEs := hE.size
                replace hK := hK.trans (Kp.ext hE)
                replace hB21 := hB21.ext hE
                replace hBsp := hBsp.ext hE
                replace hBsq := hBsq.ext hE
                replace hB107 := hB107.ext hE
                replace hB129 := hB129.ext hE
                replace hT := hT.ext hE
                replace hLs := hLs.ext hE
                replace hG := fun r hr => (hG r hr).ext hE
                replace hTr_w13 := hTr_w13.trans (Kp.ext hE)
                replace hS0 := hS0.ext hE
                replace hS1 := hS1.ext hE
                replace hRx := hRx.ext hE
                replace hS0p := hS0p.ext hE
                replace hS1p := hS1p.ext hE
                replace hTr_w60 := hTr_w60.trans (Kp.ext hE)
                replace hP := hP.ext hE
                replace hTr_w86 := hTr_w86.trans (Kp.ext hE)
                replace hS0q := hS0q.ext hE
                replace hS1q := hS1q.ext hE
                replace hTr_w94 := hTr_w94.trans (Kp.ext hE)
                replace hLl := hLl.ext hE
                replace hTr_w99 := hTr_w99.trans (Kp.ext hE)
                replace hOa := hOa.ext hE
                replace hTr_w121 := hTr_w121.trans (Kp.ext hE)
                replace hOb := hOb.ext hE
                replace hAz162 := At.ext hAz162 hE
                refine oblK_n rfl ?_
                refine opk_norm [(13, .int .i64 (1))] ⟨rfl, trivial⟩ (fun ρq => ?_)
                refine o_move (v := .int .i64 (1)) rfl ?_
                exact ⟨Kp.refl _ _, rfl⟩
              · refine oblK_post rfl rfl (fun w174k vs lo hi hE hkn hap => ?_)
                have hEs := hE.size
                replace hK := hK.trans (Kp.ext hE)
                replace hB21 := hB21.ext hE
                replace hBsp := hBsp.ext hE
                replace hBsq := hBsq.ext hE
                replace hB107 := hB107.ext hE
                replace hB129 := hB129.ext hE
                replace hT := hT.ext hE
                replace hLs := hLs.ext hE
                replace hG := fun r hr => (hG r hr).ext hE
                replace hTr_w13 := hTr_w13.trans (Kp.ext hE)
                replace hS0 := hS0.ext hE
                replace hS1 := hS1.ext hE
                replace hRx := hRx.ext hE
                replace hS0p := hS0p.ext hE
                replace hS1p := hS1p.ext hE
                replace hTr_w60 := hTr_w60.trans (Kp.ext hE)
                replace hP := hP.ext hE
                replace hTr_w86 := hTr_w86.trans (Kp.ext hE)
                replace hS0q := hS0q.ext hE
                replace hS1q := hS1q.ext hE
                replace hTr_w94 := hTr_w94.trans (Kp.ext hE)
                replace hLl := hLl.ext hE
                replace hTr_w99 := hTr_w99.trans (Kp.ext hE)
                replace hOa := hOa.ext hE
                replace hTr_w121 := hTr_w121.trans (Kp.ext hE)
                replace hOb := hOb.ext hE
                replace hAz162 := At.ext hAz162 hE
                refine oblK_n rfl ?_
                refine opk_norm [(100, .int .i64 (1))] ⟨rfl, trivial⟩ (fun ρq => ?_)
                refine o_sub64 (a := 1) (b := 1) rfl rfl (by omega) (by omega) ?_
                exact ⟨Kp.refl _ _, rfl⟩
              · refine oblK_post rfl rfl (fun w174k vs lo hi hE hkn hap => ?_)
                have hEs := hE.size
                replace hK := hK.trans (Kp.ext hE)
                replace hB21 := hB21.ext hE
                replace hBsp := hBsp.ext hE
                replace hBsq := hBsq.ext hE
                replace hB107 := hB107.ext hE
                replace hB129 := hB129.ext hE
                replace hT := hT.ext hE
                replace hLs := hLs.ext hE
                replace hG := fun r hr => (hG r hr).ext hE
                replace hTr_w13 := hTr_w13.trans (Kp.ext hE)
                replace hS0 := hS0.ext hE
                replace hS1 := hS1.ext hE
                replace hRx := hRx.ext hE
                replace hS0p := hS0p.ext hE
                replace hS1p := hS1p.ext hE
                replace hTr_w60 := hTr_w60.trans (Kp.ext hE)
                replace hP := hP.ext hE
                replace hTr_w86 := hTr_w86.trans (Kp.ext hE)
                replace hS0q := hS0q.ext hE
                replace hS1q := hS1q.ext hE
                replace hTr_w94 := hTr_w94.trans (Kp.ext hE)
                replace hLl := hLl.ext hE
                replace hTr_w99 := hTr_w99.trans (Kp.ext hE)
                replace hOa := hOa.ext hE
                replace hTr_w121 := hTr_w121.trans (Kp.ext hE)
                replace hOb := hOb.ext hE
                replace hAz162 := At.ext hAz162 hE
                refine oblK_n rfl ?_
                refine opk_norm [(99, .slice ((some ⟨bsp, 0, none⟩)) 2 2), (101, .int .i64 (0))] ⟨rfl, rfl, trivial⟩ (fun ρq => ?_)
                refine o_idxAt 0 rfl rfl Tryd.underlying33 Tryd.sizeOf24 rfl rfl (by decide) ?_
                exact ⟨Kp.refl _ _, rfl⟩
              · refine oblK_post rfl rfl (fun w174k vs lo hi hE hkn hap => ?_)
                have hEs := hE.size
                replace hK := hK.trans (Kp.ext hE)
                replace hB21 := hB21.ext hE
                replace hBsp := hBsp.ext hE
                replace hBsq := hBsq.ext hE
                replace hB107 := hB107.ext hE
                replace hB129 := hB129.ext hE
                replace hT := hT.ext hE
                replace hLs := hLs.ext hE
                replace hG := fun r hr => (hG r hr).ext hE
                replace hTr_w13 := hTr_w13.trans (Kp.ext hE)
                replace hS0 := hS0.ext hE
                replace hS1 := hS1.ext hE
                replace hRx := hRx.ext hE
                replace hS0p := hS0p.ext hE
                replace hS1p := hS1p.ext hE
                replace hTr_w60 := hTr_w60.trans (Kp.ext hE)
                replace hP := hP.ext hE
                replace hTr_w86 := hTr_w86.trans (Kp.ext hE)
                replace hS0q := hS0q.ext hE
                replace hS1q := hS1q.ext hE
                replace hTr_w94 := hTr_w94.trans (Kp.ext hE)
                replace hLl := hLl.ext hE
                replace hTr_w99 := hTr_w99.trans (Kp.ext hE)
                replace hOa := hOa.ext hE
                replace hTr_w121 := hTr_w121.trans (Kp.ext hE)
                replace hOb := hOb.ext hE
                replace hAz162 := At.ext hAz162 hE
                refine oblK_n rfl ?_
                refine opk_norm [(102, .pointer (some ⟨bsp, 0, none⟩))] ⟨rfl, trivial⟩ (fun ρq => ?_)
                refine o_loadB (v := .slice as0p s0.length cs0p) rfl hBsp tyS24 rfl ?_
                exact ⟨Kp.refl _ _, rfl⟩
              · refine oblK_post rfl rfl (fun w174k vs lo hi hE hkn hap => ?_)
                have hEs := hE.size
                replace hK := hK.trans (Kp.ext hE)
                replace hB21 := hB21.ext hE
                replace hBsp := hBsp.ext hE
                replace hBsq := hBsq.ext hE
                replace hB107 := hB107.ext hE
                replace hB129 := hB129.ext hE
                replace hT := hT.ext hE
                replace hLs := hLs.ext hE
                replace hG := fun r hr => (hG r hr).ext hE
                replace hTr_w13 := hTr_w13.trans (Kp.ext hE)
                replace hS0 := hS0.ext hE
                replace hS1 := hS1.ext hE
                replace hRx := hRx.ext hE
                replace hS0p := hS0p.ext hE
                replace hS1p := hS1p.ext hE
                replace hTr_w60 := hTr_w60.trans (Kp.ext hE)
                replace hP := hP.ext hE
                replace hTr_w86 := hTr_w86.trans (Kp.ext hE)
                replace hS0q := hS0q.ext hE
                replace hS1q := hS1q.ext hE
                replace hTr_w94 := hTr_w94.trans (Kp.ext hE)
                replace hLl := hLl.ext hE
                replace hTr_w99 := hTr_w99.trans (Kp.ext hE)
                replace hOa := hOa.ext hE
                replace hTr_w121 := hTr_w121.trans (Kp.ext hE)
                replace hOb := hOb.ext hE
                replace hAz162 := At.ext hAz162 hE
                refine oblK_n rfl ?_
                refine opk_norm [(103, .slice as0p s0.length cs0p)] ⟨rfl, trivial⟩ (fun ρq => ?_)
                refine o_strOf (xs := s0) rfl Tryd.underlying24 Tryd.underlying5 Tryd.underlying9 hS0p ?_
                exact ⟨Kp.refl _ _, rfl⟩
              · refine oblK_post rfl rfl (fun w174k vs lo hi hE hkn hap => ?_)
                have hEs := hE.size
                replace hK := hK.trans (Kp.ext hE)
                replace hB21 := hB21.ext hE
                replace hBsp := hBsp.ext hE
                replace hBsq := hBsq.ext hE
                replace hB107 := hB107.ext hE
                replace hB129 := hB129.ext hE
                replace hT := hT.ext hE
                replace hLs := hLs.ext hE
                replace hG := fun r hr => (hG r hr).ext hE
                replace hTr_w13 := hTr_w13.trans (Kp.ext hE)
                replace hS0 := hS0.ext hE
                replace hS1 := hS1.ext hE
                replace hRx := hRx.ext hE
                replace hS0p := hS0p.ext hE
                replace hS1p := hS1p.ext hE
                replace hTr_w60 := hTr_w60.trans (Kp.ext hE)
                replace hP := hP.ext hE
                replace hTr_w86 := hTr_w86.trans (Kp.ext hE)
                replace hS0q := hS0q.ext hE
                replace hS1q := hS1q.ext hE
                replace hTr_w94 := hTr_w94.trans (Kp.ext hE)
                replace hLl := hLl.ext hE
                replace hTr_w99 := hTr_w99.trans (Kp.ext hE)
                replace hOa := hOa.ext hE
                replace hTr_w121 := hTr_w121.trans (Kp.ext hE)
                replace hOb := hOb.ext hE
                replace hAz162 := At.ext hAz162 hE
                refine oblK_n rfl ?_
                refine opk_norm [(98, .string (strOf s0)), (104, .string (strOf s0))] ⟨rfl, rfl, trivial⟩ (fun ρq => ?_)
                refine o_neqSt (a := strOf s0) rfl rfl rfl ?_
                exact ⟨Kp.refl _ _, rfl⟩
              · refine oblK_post rfl rfl (fun w174k vs lo hi hE hkn hap => ?_)
                have hEs := hE.size
                replace hK := hK.trans (Kp.ext hE)
                replace hB21 := hB21.ext hE
                replace hBsp := hBsp.ext hE
                replace hBsq := hBsq.ext hE
                replace hB107 := hB107.ext hE
                replace hB129 := hB129.ext hE
                replace hT := hT.ext hE
                replace hLs := hLs.ext hE
                replace hG := fun r hr => (hG r hr).ext hE
                replace hTr_w13 := hTr_w13.trans (Kp.ext hE)
                replace hS0 := hS0.ext hE
                replace hS1 := hS1.ext hE
                replace hRx := hRx.ext hE
                replace hS0p := hS0p.ext hE
                replace hS1p := hS1p.ext hE
                replace hTr_w60 := hTr_w60.trans (Kp.ext hE)
                replace hP := hP.ext hE
                replace hTr_w86 := hTr_w86.trans (Kp.ext hE)
                replace hS0q := hS0q.ext hE
                replace hS1q := hS1q.ext hE
                replace hTr_w94 := hTr_w94.trans (Kp.ext hE)
                replace hLl := hLl.ext hE
                replace hTr_w99 := hTr_w99.trans (Kp.ext hE)
                replace hOa := hOa.ext hE
                replace hTr_w121 := hTr_w121.trans (Kp.ext hE)
                replace hOb := hOb.ext hE
                replace hAz162 := At.ext hAz162 hE
                refine oblK_n rfl ?_
                refine opk_norm [(105, .bool (false))] ⟨rfl, trivial⟩ (fun ρq => ?_)
                refine o_move (v := .bool (false)) rfl ?_
                exact ⟨Kp.refl _ _, rfl⟩
              · refine oblK_post rfl rfl (fun w174k vs lo hi hE hkn hap => ?_)
                have hEs := hE.size
                replace hK := hK.trans (Kp.ext hE)
                replace hB21 := hB21.ext hE
                replace hBsp := hBsp.ext hE
                replace hBsq := hBsq.ext hE
                replace hB107 := hB107.ext hE
                replace hB129 := hB129.ext hE
                replace hT := hT.ext hE
                replace hLs := hLs.ext hE
                replace hG := fun r hr => (hG r hr).ext hE
                replace hTr_w13 := hTr_w13.trans (Kp.ext hE)
                replace hS0 := hS0.ext hE
                replace hS1 := hS1.ext hE
                replace hRx := hRx.ext hE
                replace hS0p := hS0p.ext hE
                replace hS1p := hS1p.ext hE
                replace hTr_w60 := hTr_w60.trans (Kp.ext hE)
                replace hP := hP.ext hE
                replace hTr_w86 := hTr_w86.trans (Kp.ext hE)
                replace hS0q := hS0q.ext hE
                replace hS1q := hS1q.ext hE
                replace hTr_w94 := hTr_w94.trans (Kp.ext hE)
                replace hLl := hLl.ext hE
                replace hTr_w99 := hTr_w99.trans (Kp.ext hE)
                replace hOa := hOa.ext hE
                replace hTr_w121 := hTr_w121.trans (Kp.ext hE)
                replace hOb := hOb.ext hE
                replace hAz162 := At.ext hAz162 hE
                refine oblK_n (want_t rfl (rfl)) ?_
                refine opk_norm [(8, .slice ((some ⟨bsq, 0, none⟩)) 2 2), (106, .bool (false))] ⟨rfl, rfl, trivial⟩ (fun ρq => ?_)
                refine o_move (v := .slice ((some ⟨bsq, 0, none⟩)) 2 2) rfl ?_
                exact ⟨Kp.refl _ _, rfl⟩
              · refine oblK_post rfl rfl (fun w174k vs lo hi hE hkn hap => ?_)
                have hEs := hE.size
                replace hK := hK.trans (Kp.ext hE)
                replace hB21 := hB21.ext hE
                replace hBsp := hBsp.ext hE
                replace hBsq := hBsq.ext hE
                replace hB107 := hB107.ext hE
                replace hB129 := hB129.ext hE
                replace hT := hT.ext hE
                replace hLs := hLs.ext hE
                replace hG := fun r hr => (hG r hr).ext hE
                replace hTr_w13 := hTr_w13.trans (Kp.ext hE)
                replace hS0 := hS0.ext hE
                replace hS1 := hS1.ext hE
                replace hRx := hRx.ext hE
                replace hS0p := hS0p.ext hE
                replace hS1p := hS1p.ext hE
                replace hTr_w60 := hTr_w60.trans (Kp.ext hE)
                replace hP := hP.ext hE
                replace hTr_w86 := hTr_w86.trans (Kp.ext hE)
                replace hS0q := hS0q.ext hE
                replace hS1q := hS1q.ext hE
                replace hTr_w94 := hTr_w94.trans (Kp.ext hE)
                replace hLl := hLl.ext hE
                replace hTr_w99 := hTr_w99.trans (Kp.ext hE)
                replace hOa := hOa.ext hE
                replace hTr_w121 := hTr_w121.trans (Kp.ext hE)
                replace hOb := hOb.ext hE
                replace hAz162 := At.ext hAz162 hE
                refine oblK_n (want_t rfl (rfl)) ?_
                refine opk_norm [(13, .int .i64 (1)), (106, .bool (false))] ⟨rfl, rfl, trivial⟩ (fun ρq => ?_)
                refine o_move (v := .int .i64 (1)) rfl ?_
                exact ⟨Kp.refl _ _, rfl⟩
              · refine oblK_post rfl rfl (fun w174k vs lo hi hE hkn hap => ?_)
                have hEs := hE.size
                replace hK := hK.trans (Kp.ext hE)
                replace hB21 := hB21.ext hE
                replace hBsp := hBsp.ext hE
                replace hBsq := hBsq.ext hE
                replace hB107 := hB107.ext hE
                replace hB129 := hB129.ext hE
                replace hT := hT.ext hE
                replace hLs := hLs.ext hE
                replace hG := fun r hr => (hG r hr).ext hE
                replace hTr_w13 := hTr_w13.trans (Kp.ext hE)
                replace hS0 := hS0.ext hE
                replace hS1 := hS1.ext hE
                replace hRx := hRx.ext hE
                replace hS0p := hS0p.ext hE
                replace hS1p := hS1p.ext hE
                replace hTr_w60 := hTr_w60.trans (Kp.ext hE)
                replace hP := hP.ext hE
                replace hTr_w86 := hTr_w86.trans (Kp.ext hE)
                replace hS0q := hS0q.ext hE
                replace hS1q := hS1q.ext hE
                replace hTr_w94 := hTr_w94.trans (Kp.ext hE)
                replace hLl := hLl.ext hE
                replace hTr_w99 := hTr_w99.trans (Kp.ext hE)
                replace hOa := hOa.ext hE
                replace hTr_w121 := hTr_w121.trans (Kp.ext hE)
                replace hOb := hOb.ext hE
                replace hAz162 := At.ext hAz162 hE
                refine oblK_n (want_t rfl (rfl)) ?_
                refine opk_norm [(106, .bool (false)), (107, .slice ((some ⟨bsq, 0, none⟩)) 2 2), (108, .int .i64 (1))] ⟨rfl, rfl, rfl, trivial⟩ (fun ρq => ?_)
                refine o_idxAt 1 rfl rfl Tryd.underlying33 Tryd.sizeOf24 rfl rfl (by decide) ?_
                exact ⟨Kp.refl _ _, rfl⟩
              · refine oblK_post rfl rfl (fun w174k vs lo hi hE hkn hap => ?_)
                have hEs := hE.size
                replace hK := hK.trans (Kp.ext hE)
                replace hB21 := hB21.ext hE
                replace hBsp := hBsp.ext hE
                replace hBsq := hBsq.ext hE
                replace hB107 := hB107.ext hE
                replace hB129 := hB129.ext hE
                replace hT := hT.ext hE
                replace hLs := hLs.ext hE
                replace hG := fun r hr => (hG r hr).ext hE
                replace hTr_w13 := hTr_w13.trans (Kp.ext hE)
                replace hS0 := hS0.ext hE
                replace hS1 := hS1.ext hE
                replace hRx := hRx.ext hE
                replace hS0p := hS0p.ext hE
                replace hS1p := hS1p.ext hE
                replace hTr_w60 := hTr_w60.trans (Kp.ext hE)
                replace hP := hP.ext hE
                replace hTr_w86 := hTr_w86.trans (Kp.ext hE)
                replace hS0q := hS0q.ext hE
                replace hS1q := hS1q.ext hE
                replace hTr_w94 := hTr_w94.trans (Kp.ext hE)
                replace hLl := hLl.ext hE
                replace hTr_w99 := hTr_w99.trans (Kp.ext hE)
                replace hOa := hOa.ext hE
                replace hTr_w121 := hTr_w121.trans (Kp.ext hE)
                replace hOb := hOb.ext hE
                replace hAz162 := At.ext hAz162 hE
                refine oblK_n (want_t rfl (rfl)) ?_
                refine opk_norm [(106, .bool (false)), (109, .pointer (some ⟨bsq, 1, none⟩))] ⟨rfl, rfl, trivial⟩ (fun ρq => ?_)
                refine o_loadB (v := .slice as1q X1.length cs1q) rfl hBsq tyS24 rfl ?_
                exact ⟨Kp.refl _ _, rfl⟩
              · refine oblK_post rfl rfl (fun w174k vs lo hi hE hkn hap => ?_)
                have hEs := hE.size
                replace hK := hK.trans (Kp.ext hE)
                replace hB21 := hB21.ext hE
                replace hBsp := hBsp.ext hE
                replace hBsq := hBsq.ext hE
                replace hB107 := hB107.ext hE
                replace hB129 := hB129.ext hE
                replace hT := hT.ext hE
                replace hLs := hLs.ext hE
                replace hG := fun r hr => (hG r hr).ext hE
                replace hTr_w13 := hTr_w13.trans (Kp.ext hE)
                replace hS0 := hS0.ext hE
                replace hS1 := hS1.ext hE
                replace hRx := hRx.ext hE
                replace hS0p := hS0p.ext hE
                replace hS1p := hS1p.ext hE
                replace hTr_w60 := hTr_w60.trans (Kp.ext hE)
                replace hP := hP.ext hE
                replace hTr_w86 := hTr_w86.trans (Kp.ext hE)
                replace hS0q := hS0q.ext hE
                replace hS1q := hS1q.ext hE
                replace hTr_w94 := hTr_w94.trans (Kp.ext hE)
                replace hLl := hLl.ext hE
                replace hTr_w99 := hTr_w99.trans (Kp.ext hE)
                replace hOa := hOa.ext hE
                replace hTr_w121 := hTr_w121.trans (Kp.ext hE)
                replace hOb := hOb.ext hE
                replace hAz162 := At.ext hAz162 hE
                refine oblK_n (want_t rfl (rfl)) ?_
                refine opk_norm [(106, .bool (false)), (110, .slice as1q X1.length cs1q)] ⟨rfl, rfl, trivial⟩ (fun ρq => ?_)
                refine o_strOf (xs := X1) rfl Tryd.underlying24 Tryd.underlying5 Tryd.underlying9 hS1q ?_
                exact ⟨Kp.refl _ _, rfl⟩
              · refine oblK_post rfl rfl (fun w174k vs lo hi hE hkn hap => ?_)
                have hEs := hE.size
                replace hK := hK.trans (Kp.ext hE)
                replace hB21 := hB21.ext hE
                replace hBsp := hBsp.ext hE
                replace hBsq := hBsq.ext hE
                replace hB107 := hB107.ext hE
                replace hB129 := hB129.ext hE
                replace hT := hT.ext hE
                replace hLs := hLs.ext hE
                replace hG := fun r hr => (hG r hr).ext hE
                replace hTr_w13 := hTr_w13.trans (Kp.ext hE)
                replace hS0 := hS0.ext hE
                replace hS1 := hS1.ext hE
                replace hRx := hRx.ext hE
                replace hS0p := hS0p.ext hE
                replace hS1p := hS1p.ext hE
                replace hTr_w60 := hTr_w60.trans (Kp.ext hE)
                replace hP := hP.ext hE
                replace hTr_w86 := hTr_w86.trans (Kp.ext hE)
                replace hS0q := hS0q.ext hE
                replace hS1q := hS1q.ext hE
                replace hTr_w94 := hTr_w94.trans (Kp.ext hE)
                replace hLl := hLl.ext hE
                replace hTr_w99 := hTr_w99.trans (Kp.ext hE)
                replace hOa := hOa.ext hE
                replace hTr_w121 := hTr_w121.trans (Kp.ext hE)
                replace hOb := hOb.ext hE
                replace hAz162 := At.ext hAz162 hE
                refine oblK_n (want_t rfl (rfl)) ?_
                refine opk_norm [(0, .slice al ls.length cl), (106, .bool (false))] ⟨rfl, rfl, trivial⟩ (fun ρq => ?_)
                refine o_move (v := .slice al ls.length cl) rfl ?_
                exact ⟨Kp.refl _ _, rfl⟩
              · refine oblK_post rfl rfl (fun w174k vs lo hi hE hkn hap => ?_)
                have hEs := hE.size
                replace hK := hK.trans (Kp.ext hE)
                replace hB21 := hB21.ext hE
                replace hBsp := hBsp.ext hE
                replace hBsq := hBsq.ext hE
                replace hB107 := hB107.ext hE
                replace hB129 := hB129.ext hE
                replace hT := hT.ext hE
                replace hLs := hLs.ext hE
                replace hG := fun r hr => (hG r hr).ext hE
                replace hTr_w13 := hTr_w13.trans (Kp.ext hE)
                replace hS0 := hS0.ext hE
                replace hS1 := hS1.ext hE
                replace hRx := hRx.ext hE
                replace hS0p := hS0p.ext hE
                replace hS1p := hS1p.ext hE
                replace hTr_w60 := hTr_w60.trans (Kp.ext hE)
                replace hP := hP.ext hE
                replace hTr_w86 := hTr_w86.trans (Kp.ext hE)
                replace hS0q := hS0q.ext hE
                replace hS1q := hS1q.ext hE
                replace hTr_w94 := hTr_w94.trans (Kp.ext hE)
                replace hLl := hLl.ext hE
                replace hTr_w99 := hTr_w99.trans (Kp.ext hE)
                replace hOa := hOa.ext hE
                replace hTr_w121 := hTr_w121.trans (Kp.ext hE)
                replace hOb := hOb.ext hE
                replace hAz162 := At.ext hAz162 hE
                refine oblK_n (want_t rfl (rfl)) ?_
                refine opk_norm [(5, .int .i64 ((i : Int))), (106, .bool (false))] ⟨rfl, rfl, trivial⟩ (fun ρq => ?_)
                refine o_move (v := .int .i64 ((i : Int))) rfl ?_
                exact ⟨Kp.refl _ _, rfl⟩
              · refine oblK_post rfl rfl (fun w174k vs lo hi hE hkn hap => ?_)
                have hEs := hE.size
                replace hK := hK.trans (Kp.ext hE)
                replace hB21 := hB21.ext hE
                replace hBsp := hBsp.ext hE
                replace hBsq := hBsq.ext hE
                replace hB107 := hB107.ext hE
                replace hB129 := hB129.ext hE
                replace hT := hT.ext hE
                replace hLs := hLs.ext hE
                replace hG := fun r hr => (hG r hr).ext hE
                replace hTr_w13 := hTr_w13.trans (Kp.ext hE)
                replace hS0 := hS0.ext hE
                replace hS1 := hS1.ext hE
                replace hRx := hRx.ext hE
                replace hS0p := hS0p.ext hE
                replace hS1p := hS1p.ext hE
                replace hTr_w60 := hTr_w60.trans (Kp.ext hE)
                replace hP := hP.ext hE
                replace hTr_w86 := hTr_w86.trans (Kp.ext hE)
                replace hS0q := hS0q.ext hE
                replace hS1q := hS1q.ext hE
                replace hTr_w94 := hTr_w94.trans (Kp.ext hE)
                replace hLl := hLl.ext hE
                replace hTr_w99 := hTr_w99.trans (Kp.ext hE)
                replace hOa := hOa.ext hE
                replace hTr_w121 := hTr_w121.trans (Kp.ext hE)
                replace hOb := hOb.ext hE
                replace hAz162 := At.ext hAz162 hE
                refine oblK_n (want_t rfl (rfl)) ?_
                refine opk_norm [(106, .bool (false)), (112, .slice al ls.length cl), (113, .int .i64 ((i : Int)))] ⟨rfl, rfl, rfl, trivial⟩ (fun ρq => ?_)
                refine o_idxAt i rfl rfl Tryd.underlying22 Tryd.sizeOf32 haoz162 (by omega) (by omega) ?_
                exact ⟨Kp.refl _ _, rfl⟩
              · refine oblK_post rfl rfl (fun w174k vs lo hi hE hkn hap => ?_)
                have hEs := hE.size
                replace hK := hK.trans (Kp.ext hE)
                replace hB21 := hB21.ext hE
                replace hBsp := hBsp.ext hE
                replace hBsq := hBsq.ext hE
                replace hB107 := hB107.ext hE
                replace hB129 := hB129.ext hE
                replace hT := hT.ext hE
                replace hLs := hLs.ext hE
                replace hG := fun r hr => (hG r hr).ext hE
                replace hTr_w13 := hTr_w13.trans (Kp.ext hE)
                replace hS0 := hS0.ext hE
                replace hS1 := hS1.ext hE
                replace hRx := hRx.ext hE
                replace hS0p := hS0p.ext hE
                replace hS1p := hS1p.ext hE
                replace hTr_w60 := hTr_w60.trans (Kp.ext hE)
                replace hP := hP.ext hE
                replace hTr_w86 := hTr_w86.trans (Kp.ext hE)
                replace hS0q := hS0q.ext hE
                replace hS1q := hS1q.ext hE
                replace hTr_w94 := hTr_w94.trans (Kp.ext hE)
                replace hLl := hLl.ext hE
                replace hTr_w99 := hTr_w99.trans (Kp.ext hE)
                replace hOa := hOa.ext hE
                replace hTr_w121 := hTr_w121.trans (Kp.ext hE)
                replace hOb := hOb.ext hE
                replace hAz162 := At.ext hAz162 hE
                refine oblK_n (want_t rfl (rfl)) ?_
                refine opk_norm [(106, .bool (false)), (114, .pointer (some ⟨bz162, oz162 + i * 4, none⟩))] ⟨rfl, rfl, trivial⟩ (fun ρq => ?_)
                refine o_loadA (cs := [.int .i64 (x9.b), .int .i64 (x9.m), .int .i64 (x9.c), .slice x9.s.ao x9.s.xs.length x9.s.c]) rfl tyA32 rfl hAz162 ?_
                exact ⟨Kp.refl _ _, rfl⟩
              · refine oblK_post rfl rfl (fun w174k vs lo hi hE hkn hap => ?_)
                have hEs := hE.size
                replace hK := hK.trans (Kp.ext hE)
                replace hB21 := hB21.ext hE
                replace hBsp := hBsp.ext hE
                replace hBsq := hBsq.ext hE
                replace hB107 := hB107.ext hE
                replace hB129 := hB129.ext hE
                replace hT := hT.ext hE
                replace hLs := hLs.ext hE
                replace hG := fun r hr => (hG r hr).ext hE
                replace hTr_w13 := hTr_w13.trans (Kp.ext hE)
                replace hS0 := hS0.ext hE
                replace hS1 := hS1.ext hE
                replace hRx := hRx.ext hE
                replace hS0p := hS0p.ext hE
                replace hS1p := hS1p.ext hE
                replace hTr_w60 := hTr_w60.trans (Kp.ext hE)
                replace hP := hP.ext hE
                replace hTr_w86 := hTr_w86.trans (Kp.ext hE)
                replace hS0q := hS0q.ext hE
                replace hS1q := hS1q.ext hE
                replace hTr_w94 := hTr_w94.trans (Kp.ext hE)
                replace hLl := hLl.ext hE
                replace hTr_w99 := hTr_w99.trans (Kp.ext hE)
                replace hOa := hOa.ext hE
                replace hTr_w121 := hTr_w121.trans (Kp.ext hE)
                replace hOb := hOb.ext hE
                replace hAz162 := At.ext hAz162 hE
                refine oblK_n (want_t rfl (rfl)) ?_
                refine opk_norm [(10, .int .u64 ((i : Int) + 1)), (106, .bool (false))] ⟨rfl, rfl, trivial⟩ (fun ρq => ?_)
                refine o_move (v := .int .u64 ((i : Int) + 1)) rfl ?_
                exact ⟨Kp.refl _ _, rfl⟩
              · refine oblK_post rfl rfl (fun w174k vs lo hi hE hkn hap => ?_)
                have hEs := hE.size
                replace hK := hK.trans (Kp.ext hE)
                replace hB21 := hB21.ext hE
                replace hBsp := hBsp.ext hE
                replace hBsq := hBsq.ext hE
                replace hB107 := hB107.ext hE
                replace hB129 := hB129.ext hE
                replace hT := hT.ext hE
                replace hLs := hLs.ext hE
                replace hG := fun r hr => (hG r hr).ext hE
                replace hTr_w13 := hTr_w13.trans (Kp.ext hE)
                replace hS0 := hS0.ext hE
                replace hS1 := hS1.ext hE
                replace hRx := hRx.ext hE
                replace hS0p := hS0p.ext hE
                replace hS1p := hS1p.ext hE
                replace hTr_w60 := hTr_w60.trans (Kp.ext hE)
                replace hP := hP.ext hE
                replace hTr_w86 := hTr_w86.trans (Kp.ext hE)
                replace hS0q := hS0q.ext hE
                replace hS1q := hS1q.ext hE
                replace hTr_w94 := hTr_w94.trans (Kp.ext hE)
                replace hLl := hLl.ext hE
                replace hTr_w99 := hTr_w99.trans (Kp.ext hE)
                replace hOa := hOa.ext hE
                replace hTr_w121 := hTr_w121.trans (Kp.ext hE)
                replace hOb := hOb.ext hE
                replace hAz162 := At.ext hAz162 hE
                refine oblK_n (want_t rfl (rfl)) ?_
                refine opk_norm [(106, .bool (false)), (115, .agg #[.int .i64 (x9.b), .int .i64 (x9.m), .int .i64 (x9.c), .slice x9.s.ao x9.s.xs.length x9.s.c]), (116, .int .u64 ((i : Int) + 1))] ⟨rfl, rfl, rfl, trivial⟩ (fun ρq => ?_)
                refine o_call (jput_to x9.b x9.m x9.c _ _ x9.s.xs ((i : Int) + 1) X1 _ _ hX1 rfl (by omega) hpp hpb hpm (by omega) hT hRx) Tryd.call15 (fun v187 w188 hk189 hv190 => ?_)
                have hl_b16_w188 := hB21.lt
                have hl_bsp_w188 := hBsp.lt
                have hl_bsq_w188 := hBsq.lt
                have hl_b102_w188 := hB107.lt
                have hl_b124_w188 := hB129.lt
                have hs_w188 := hK.size
                have hsk_w188 := hk189.size
                obtain ⟨aj, cj, rfl, hJ⟩ := hv190
                replace hK := hK.trans (Kp.ext hk189)
                replace hB21 := hB21.ext hk189
                replace hBsp := hBsp.ext hk189
                replace hBsq := hBsq.ext hk189
                replace hB107 := hB107.ext hk189
                replace hB129 := hB129.ext hk189
                replace hT := hT.ext hk189
                replace hLs := hLs.ext hk189
                replace hG := fun r hr => (hG r hr).ext hk189
                replace hTr_w13 := hTr_w13.trans (Kp.ext hk189)
                replace hS0 := hS0.ext hk189
                replace hS1 := hS1.ext hk189
                replace hRx := hRx.ext hk189
                replace hS0p := hS0p.ext hk189
                replace hS1p := hS1p.ext hk189
                replace hTr_w60 := hTr_w60.trans (Kp.ext hk189)
                replace hP := hP.ext hk189
                replace hTr_w86 := hTr_w86.trans (Kp.ext hk189)
                replace hS0q := hS0q.ext hk189
                replace hS1q := hS1q.ext hk189
                replace hTr_w94 := hTr_w94.trans (Kp.ext hk189)
                replace hLl := hLl.ext hk189
                replace hTr_w99 := hTr_w99.trans (Kp.ext hk189)
                replace hOa := hOa.ext hk189
                replace hTr_w121 := hTr_w121.trans (Kp.ext hk189)
                replace hOb := hOb.ext hk189
                replace hAz162 := At.ext hAz162 hk189
                exact ⟨hk189, rfl, hEs, hJ.mono (fun b hb h => ⟨h, hb⟩)⟩
              · refine oblK_post rfl rfl (fun w174k vs lo hi hE hkn hap => ?_)
                have hEs := hE.size
                replace hK := hK.trans (Kp.ext hE)
                replace hB21 := hB21.ext hE
                replace hBsp := hBsp.ext hE
                replace hBsq := hBsq.ext hE
                replace hB107 := hB107.ext hE
                replace hB129 := hB129.ext hE
                replace hT := hT.ext hE
                replace hLs := hLs.ext hE
                replace hG := fun r hr => (hG r hr).ext hE
                replace hTr_w13 := hTr_w13.trans (Kp.ext hE)
                replace hS0 := hS0.ext hE
                replace hS1 := hS1.ext hE
                replace hRx := hRx.ext hE
                replace hS0p := hS0p.ext hE
                replace hS1p := hS1p.ext hE
                replace hTr_w60 := hTr_w60.trans (Kp.ext hE)
                replace hP := hP.ext hE
                replace hTr_w86 := hTr_w86.trans (Kp.ext hE)
                replace hS0q := hS0q.ext hE
                replace hS1q := hS1q.ext hE
                replace hTr_w94 := hTr_w94.trans (Kp.ext hE)
                replace hLl := hLl.ext hE
                replace hTr_w99 := hTr_w99.trans (Kp.ext hE)
                replace hOa := hOa.ext hE
                replace hTr_w121 := hTr_w121.trans (Kp.ext hE)
                replace hOb := hOb.ext hE
                replace hAz162 := At.ext hAz162 hE
                obtain ⟨-, -, -, -, -, -, -, -, -, -, -, -, -, -, -, -, -, -, -, ⟨⟨hv24_t, hlo24_t, hJ_t⟩, hq1_24, hq2_24, hq3_24⟩, -⟩ := hkn
                obtain ⟨aj, cj, hv24, hlo24, hJ⟩ : ∃ (aj : Option Addr) (cj : Nat), (vs 24 = .slice aj X1.length cj) ∧ (w157.heap.size ≤ (lo 24)) ∧ (Rd (fun b => (lo 24) ≤ b ∧ b < (hi 24)) w174k 1 (.slice aj X1.length cj) ((X1).map encB)) := ⟨_, _, hv24_t, hlo24_t, hJ_t⟩
                clear hJ_t hlo24_t hv24_t
                replace hq1_24 : w157.heap.size ≤ lo 24 := hq1_24
                replace hq2_24 : lo 24 ≤ hi 24 := hq2_24
                replace hq3_24 : hi 24 ≤ w174k.heap.size := hq3_24
                refine oblK_n (want_t rfl (rfl)) ?_
                refine opk_norm [(106, .bool (false)), (117, .slice aj X1.length cj)] ⟨rfl, hv24, trivial⟩ (fun ρq => ?_)
                refine o_strOf (xs := X1) rfl Tryd.underlying24 Tryd.underlying5 Tryd.underlying9 hJ ?_
                exact ⟨Kp.refl _ _, rfl⟩
              have hsE3 := hE178.size
              replace hK := hK.trans (Kp.ext hE178)
              replace hB21 := hB21.ext hE178
              replace hBsp := hBsp.ext hE178
              replace hBsq := hBsq.ext hE178
              replace hB107 := hB107.ext hE178
              replace hB129 := hB129.ext hE178
              replace hT := hT.ext hE178
              replace hLs := hLs.ext hE178
              replace hG := fun r hr => (hG r hr).ext hE178
              replace hTr_w13 := hTr_w13.trans (Kp.ext hE178)
              replace hS0 := hS0.ext hE178
              replace hS1 := hS1.ext hE178
              replace hRx := hRx.ext hE178
              replace hS0p := hS0p.ext hE178
              replace hS1p := hS1p.ext hE178
              replace hTr_w60 := hTr_w60.trans (Kp.ext hE178)
              replace hP := hP.ext hE178
              replace hTr_w86 := hTr_w86.trans (Kp.ext hE178)
              replace hS0q := hS0q.ext hE178
              replace hS1q := hS1q.ext hE178
              replace hTr_w94 := hTr_w94.trans (Kp.ext hE178)
              replace hLl := hLl.ext hE178
              replace hTr_w99 := hTr_w99.trans (Kp.ext hE178)
              replace hOa := hOa.ext hE178
              replace hTr_w121 := hTr_w121.trans (Kp.ext hE178)
              replace hOb := hOb.ext hE178
              replace hAz162 := At.ext hAz162 hE178
              refine rl_norm [(0, .slice al ls.length cl), (4, .pointer (some ⟨b16, 0, none⟩)), (5, .int .i64 ((i : Int))), (106, .bool (false)), (111, .string (strOf X1)), (118, .string (strOf X1))] ⟨rfl, rfl, rfl, rfl, rfl, rfl, trivial⟩ (fun ρr173q => ?_)
              refine rl (o_neqSt (a := strOf X1) rfl rfl rfl ?_) (want_t rfl (rfl))
              refine rl (o_pickF (v := .bool (false)) rfl (rfl) rfl ?_) rfl
              refine rl_nil ?_
              refine cw_condF rfl ?_
              refine cw_skip ?_
              refine k_bn ?_
              refine k_tn ?_
              refine cw_norm [(0, .slice al ls.length cl), (4, .pointer (some ⟨b16, 0, none⟩)), (5, .int .i64 ((i : Int)))] ⟨rfl, rfl, rfl, trivial⟩ (fun ρn191 => ?_)
              refine cw_region rfl ?_
              refine rl (o_move (v := .int .i64 ((i : Int))) rfl ?_) rfl
              refine rl (o_add64 (a := (i : Int)) (b := 1) rfl rfl (by omega) (by omega) ?_) rfl
              refine rl (o_assign (v := .int .i64 ((i : Int) + 1)) rfl ?_) rfl
              refine rl_nil ?_
              refine k_tn ?_
              refine ⟨_, ?_, _, i + 1, a0, aw3, a1, p0, cw3, p1, s0, X1, s1, 1, true, upds_eq _ _ ⟨rfl, rfl, rfl, trivial⟩, rfl, (by omega), (by first | exact .inr ⟨by omega, .inr ⟨by omega, _, hck, hl80, hX1.symm⟩, by simpa using hh0⟩ | exact .inl ⟨by omega, .inr ⟨by omega, _, hck, hl80, hX1.symm⟩, by simpa using hh1⟩), hK, hB21, hT, hLs, hG, hTr_w13, (hS0.mono (fun b hb h => h.1)), (hP.mono (fun b hb h => by intro e; omega))⟩
              omega
            · skip
              have hck : check ⟨x9.b, x9.m, x9.c, x9.s.xs⟩ = true := (by simpa using h57)
              have hl80 : x9.s.xs.length ≤ 80 := by omega
              obtain ⟨hpp, hpb, hpm⟩ := permits_ok hck
              obtain ⟨X1, hX1⟩ : ∃ X, jput crcOf ⟨x9.b, x9.m, x9.c, x9.s.xs⟩ ((i : Int) + 1) = X := ⟨_, rfl⟩
              have hBX : isB X1 := hX1 ▸ isB_jput _ _
              have hNX : X1.length ≤ 1000 := by have := jput_len8 ⟨x9.b, x9.m, x9.c, x9.s.xs⟩ ((i : Int) + 1); rw [hX1] at this; dsimp only at this; omega
              have hN0 := hh0.len
              have hN1 := hh1.len
              have hjl : (jload crcOf ⟨s0, s1, la, wa, wr⟩).2 = (i : Int) := by rw [held_load hh0 hh1 (by omega) (by omega) (by omega) (by omega)]; omega
              have hj1 : jload crcOf ⟨X1, s1, 0, s0, true⟩ = (⟨x9.b, x9.m, 0, x9.s.xs⟩, (i : Int) + 1) := hX1 ▸ held_new0 hh1 (by omega) (by omega) hck hl80
              refine cw_seq ?_
              refine cw_region rfl ?_
              refine rl (o_loadBA (ds := [.slice a0 s0.length p0, .slice a1 s1.length p1, .int .i64 (la), .slice aw wa.length pw, .bool (wr)]) rfl hB21 tyA27 rfl rfl ?_) rfl
              refine rl (o_call (slots_ok (Fw := Non) _ _ _ _ _ _ s0 s1 wa la wr _ _ _ _ rfl rfl rfl (by omega) (by omega) hS0 hS1) Tryd.call10 (fun v192 w193 hk194 hv195 => ?_)) rfl
              have hl_b16_w193 := hB21.lt
              have hs_w193 := hK.size
              have hsk_w193 := hk194.size
              obtain ⟨bsp, as0p, as1p, cs0p, cs1p, rfl, hgsp, hBsp, hS0p, hS1p⟩ := hv195
              replace hK := hK.trans (Kp.ext hk194)
              replace hB21 := hB21.ext hk194
              replace hT := hT.ext hk194
              replace hLs := hLs.ext hk194
              replace hG := fun r hr => (hG r hr).ext hk194
              replace hTr_w13 := hTr_w13.trans (Kp.ext hk194)
              replace hS0 := hS0.ext hk194
              replace hS1 := hS1.ext hk194
              replace hRx := hRx.ext hk194
              replace hA9 := At.ext hA9 hk194
              replace hAz43 := At.ext hAz43 hk194
              replace hS0p := hS0p.mono (G := fun b => w53.heap.size ≤ b ∧ b < w193.heap.size) (fun b hb h => ⟨h, hb⟩)
              replace hS1p := hS1p.mono (G := fun b => w53.heap.size ≤ b ∧ b < w193.heap.size) (fun b hb h => ⟨h, hb⟩)
              have hTr_w193 := Kp.refl (fun _ => True) w193
              refine rl (o_assign (v := .slice ((some ⟨bsp, 0, none⟩)) 2 2) rfl ?_) rfl
              refine rl_nil ?_
              refine k_tn ?_
              refine cw_norm [(0, .slice al ls.length cl), (4, .pointer (some ⟨b16, 0, none⟩)), (5, .int .i64 ((i : Int))), (7, .slice ((some ⟨bsp, 0, none⟩)) 2 2)] ⟨rfl, rfl, rfl, rfl, trivial⟩ (fun ρn196 => ?_)
              obtain ⟨bz197, oz197, yz197, haoz197, hyez197, hAz197, hlt_bz197, hF_bz197⟩ := Rd.getF hLs i (by omega)
              replace hF_bz197 : bz197 < w.heap.size := hF_bz197
              obtain hxy : x9 = yz197 := Option.some.inj (hxe.symm.trans hyez197)
              subst hxy
              have ht_hTr_w13_d4 := hTr_w13.size
              have ht_hTr_w193_d4 := hTr_w193.size
              have hl_b16_d4 := hB21.lt
              have hl_bsp_d4 := hBsp.lt
              refine cw_norm [(0, .slice al ls.length cl), (4, .pointer (some ⟨b16, 0, none⟩)), (5, .int .i64 ((i : Int))), (7, .slice ((some ⟨bsp, 0, none⟩)) 2 2)] ⟨rfl, rfl, rfl, rfl, trivial⟩ (fun ρr204 => ?_)
              have hsr4 := hK.size
              refine cw_drawnK (fun _ => False) 7 [.val (.agg #[.slice a0 s0.length p0, .slice a1 s1.length p1, .int .i64 (la), .slice aw wa.length pw, .bool (wr)]), .val (.slice al ls.length cl), .val (.int .i64 ((i : Int))), .val (.pointer (some ⟨bz197, oz197 + i * 4, none⟩)), .val (.agg #[.int .i64 (x9.b), .int .i64 (x9.m), .int .i64 (x9.c), .slice x9.s.ao x9.s.xs.length x9.s.c])] [.val (.agg #[.slice a0 s0.length p0, .slice a1 s1.length p1, .int .i64 (la), .slice aw wa.length pw, .bool (wr)]), .val (.slice al ls.length cl), .val (.int .i64 ((i : Int))), .val (.pointer (some ⟨bz197, oz197 + i * 4, none⟩)), .val (.agg #[.int .i64 (x9.b), .int .i64 (x9.m), .int .i64 (x9.c), .slice x9.s.ao x9.s.xs.length x9.s.c])] [[], [], [], [1, 2], [1, 2, 3], [0, 1, 2, 3, 4], [0, 1, 2, 3, 4, 5]] 5 mixed (by kernel_rfl) ⟨upK_val, upK_val, upK_val, upK_val, upK_val, trivial⟩ ⟨⟨⟨⟨⟨trivial, ?_⟩, ?_⟩, ?_⟩, ?_⟩, ?_⟩ (fun w205 vs206 lo207 hi208 hE209 hkn210 hap211 => ?_)
              · refine oblK_post rfl rfl (fun w205k vs lo hi hE hkn hap => ?_)
                have hEs := hE.size
                replace hK := hK.trans (Kp.ext hE)
                replace hB21 := hB21.ext hE
                replace hBsp := hBsp.ext hE
                replace hT := hT.ext hE
                replace hLs := hLs.ext hE
                replace hG := fun r hr => (hG r hr).ext hE
                replace hTr_w13 := hTr_w13.trans (Kp.ext hE)
                replace hS0 := hS0.ext hE
                replace hS1 := hS1.ext hE
                replace hRx := hRx.ext hE
                replace hS0p := hS0p.ext hE
                replace hS1p := hS1p.ext hE
                replace hTr_w193 := hTr_w193.trans (Kp.ext hE)
                replace hA9 := At.ext hA9 hE
                replace hAz43 := At.ext hAz43 hE
                replace hAz197 := At.ext hAz197 hE
                refine oblK_n rfl ?_
                refine opk_norm [(4, .pointer (some ⟨b16, 0, none⟩))] ⟨rfl, trivial⟩ (fun ρq => ?_)
                refine o_loadBA (ds := [.slice a0 s0.length p0, .slice a1 s1.length p1, .int .i64 (la), .slice aw wa.length pw, .bool (wr)]) rfl hB21 tyA27 rfl rfl ?_
                exact ⟨Kp.refl _ _, rfl⟩
              · refine oblK_post rfl rfl (fun w205k vs lo hi hE hkn hap => ?_)
                have hEs := hE.size
                replace hK := hK.trans (Kp.ext hE)
                replace hB21 := hB21.ext hE
                replace hBsp := hBsp.ext hE
                replace hT := hT.ext hE
                replace hLs := hLs.ext hE
                replace hG := fun r hr => (hG r hr).ext hE
                replace hTr_w13 := hTr_w13.trans (Kp.ext hE)
                replace hS0 := hS0.ext hE
                replace hS1 := hS1.ext hE
                replace hRx := hRx.ext hE
                replace hS0p := hS0p.ext hE
                replace hS1p := hS1p.ext hE
                replace hTr_w193 := hTr_w193.trans (Kp.ext hE)
                replace hA9 := At.ext hA9 hE
                replace hAz43 := At.ext hAz43 hE
                replace hAz197 := At.ext hAz197 hE
                refine oblK_n rfl ?_
                refine opk_norm [(0, .slice al ls.length cl)] ⟨rfl, trivial⟩ (fun ρq => ?_)
                refine o_move (v := .slice al ls.length cl) rfl ?_
                exact ⟨Kp.refl _ _, rfl⟩
              · refine oblK_post rfl rfl (fun w205k vs lo hi hE hkn hap => ?_)
                have hEs := hE.size
                replace hK := hK.trans (Kp.ext hE)
                replace hB21 := hB21.ext hE
                replace hBsp := hBsp.ext hE
                replace hT := hT.ext hE
                replace hLs := hLs.ext hE
                replace hG := fun r hr => (hG r hr).ext hE
                replace hTr_w13 := hTr_w13.trans (Kp.ext hE)
                replace hS0 := hS0.ext hE
                replace hS1 := hS1.ext hE
                replace hRx := hRx.ext hE
                replace hS0p := hS0p.ext hE
                replace hS1p := hS1p.ext hE
                replace hTr_w193 := hTr_w193.trans (Kp.ext hE)
                replace hA9 := At.ext hA9 hE
                replace hAz43 := At.ext hAz43 hE
                replace hAz197 := At.ext hAz197 hE
                refine oblK_n rfl ?_
                refine opk_norm [(5, .int .i64 ((i : Int)))] ⟨rfl, trivial⟩ (fun ρq => ?_)
                refine o_move (v := .int .i64 ((i : Int))) rfl ?_
                exact ⟨Kp.refl _ _, rfl⟩
              · refine oblK_post rfl rfl (fun w205k vs lo hi hE hkn hap => ?_)
                have hEs := hE.size
                replace hK := hK.trans (Kp.ext hE)
                replace hB21 := hB21.ext hE
                replace hBsp := hBsp.ext hE
                replace hT := hT.ext hE
                replace hLs := hLs.ext hE
                replace hG := fun r hr => (hG r hr).ext hE
                replace hTr_w13 := hTr_w13.trans (Kp.ext hE)
                replace hS0 := hS0.ext hE
                replace hS1 := hS1.ext hE
                replace hRx := hRx.ext hE
                replace hS0p := hS0p.ext hE
                replace hS1p := hS1p.ext hE
                replace hTr_w193 := hTr_w193.trans (Kp.ext hE)
                replace hA9 := At.ext hA9 hE
                replace hAz43 := At.ext hAz43 hE
                replace hAz197 := At.ext hAz197 hE
                refine oblK_n rfl ?_
                refine opk_norm [(45, .slice al ls.length cl), (46, .int .i64 ((i : Int)))] ⟨rfl, rfl, trivial⟩ (fun ρq => ?_)
                refine o_idxAt i rfl rfl Tryd.underlying22 Tryd.sizeOf32 haoz197 (by omega) (by omega) ?_
                exact ⟨Kp.refl _ _, rfl⟩
              · refine oblK_post rfl rfl (fun w205k vs lo hi hE hkn hap => ?_)
                have hEs := hE.size
                replace hK := hK.trans (Kp.ext hE)
                replace hB21 := hB21.ext hE
                replace hBsp := hBsp.ext hE
                replace hT := hT.ext hE
                replace hLs := hLs.ext hE
                replace hG := fun r hr => (hG r hr).ext hE
                replace hTr_w13 := hTr_w13.trans (Kp.ext hE)
                replace hS0 := hS0.ext hE
                replace hS1 := hS1.ext hE
                replace hRx := hRx.ext hE
                replace hS0p := hS0p.ext hE
                replace hS1p := hS1p.ext hE
                replace hTr_w193 := hTr_w193.trans (Kp.ext hE)
                replace hA9 := At.ext hA9 hE
                replace hAz43 := At.ext hAz43 hE
                replace hAz197 := At.ext hAz197 hE
                refine oblK_n rfl ?_
                refine opk_norm [(47, .pointer (some ⟨bz197, oz197 + i * 4, none⟩))] ⟨rfl, trivial⟩ (fun ρq => ?_)
                refine o_loadA (cs := [.int .i64 (x9.b), .int .i64 (x9.m), .int .i64 (x9.c), .slice x9.s.ao x9.s.xs.length x9.s.c]) rfl tyA32 rfl hAz197 ?_
                exact ⟨Kp.refl _ _, rfl⟩
              have hsE4 := hE209.size
              replace hK := hK.trans (Kp.ext hE209)
              replace hB21 := hB21.ext hE209
              replace hBsp := hBsp.ext hE209
              replace hT := hT.ext hE209
              replace hLs := hLs.ext hE209
              replace hG := fun r hr => (hG r hr).ext hE209
              replace hTr_w13 := hTr_w13.trans (Kp.ext hE209)
              replace hS0 := hS0.ext hE209
              replace hS1 := hS1.ext hE209
              replace hRx := hRx.ext hE209
              replace hS0p := hS0p.ext hE209
              replace hS1p := hS1p.ext hE209
              replace hTr_w193 := hTr_w193.trans (Kp.ext hE209)
              replace hA9 := At.ext hA9 hE209
              replace hAz43 := At.ext hAz43 hE209
              replace hAz197 := At.ext hAz197 hE209
              refine rl_norm [(0, .slice al ls.length cl), (4, .pointer (some ⟨b16, 0, none⟩)), (5, .int .i64 ((i : Int))), (7, .slice ((some ⟨bsp, 0, none⟩)) 2 2), (44, .agg #[.slice a0 s0.length p0, .slice a1 s1.length p1, .int .i64 (la), .slice aw wa.length pw, .bool (wr)]), (48, .agg #[.int .i64 (x9.b), .int .i64 (x9.m), .int .i64 (x9.c), .slice x9.s.ao x9.s.xs.length x9.s.c])] ⟨rfl, rfl, rfl, rfl, rfl, rfl, trivial⟩ (fun ρr204q => ?_)
              refine rl (o_call (write0_to _ _ _ _ _ _ s0 s1 wa la wr x9.b x9.m x9.c _ _ x9.s.xs _ _ _ _ ((i : Int) + 1) X1 _ (by rw [hjl]) hX1 (by omega) (by omega) rfl rfl rfl rfl (by omega) (by omega) hh0.isB hh1.isB (by omega) hpp hpb hpm hT hS0 hS1 hRx) Tryd.call11 (fun v218 w219 hk220 hv221 => ?_)) rfl
              have hl_b16_w219 := hB21.lt
              have hl_bsp_w219 := hBsp.lt
              have hs_w219 := hK.size
              have hsk_w219 := hk220.size
              obtain ⟨aw3, cw3, rfl, hP⟩ := hv221
              replace hK := hK.trans (Kp.ext hk220)
              replace hB21 := hB21.ext hk220
              replace hBsp := hBsp.ext hk220
              replace hT := hT.ext hk220
              replace hLs := hLs.ext hk220
              replace hG := fun r hr => (hG r hr).ext hk220
              replace hTr_w13 := hTr_w13.trans (Kp.ext hk220)
              replace hS0 := hS0.ext hk220
              replace hS1 := hS1.ext hk220
              replace hRx := hRx.ext hk220
              replace hS0p := hS0p.ext hk220
              replace hS1p := hS1p.ext hk220
              replace hTr_w193 := hTr_w193.trans (Kp.ext hk220)
              replace hA9 := At.ext hA9 hk220
              replace hAz43 := At.ext hAz43 hk220
              replace hAz197 := At.ext hAz197 hk220
              replace hP := hP.mono (G := fun b => w205.heap.size ≤ b ∧ b < w219.heap.size) (fun b hb h => ⟨h, hb⟩)
              have hTr_w219 := Kp.refl (fun _ => True) w219
              refine rl0 (o_storeA (vs := [.slice aw3 X1.length cw3, .slice a1 s1.length p1, .int .i64 (0), .slice a0 s0.length p0, .bool (true)]) rfl rfl hB21 tyA27 rfl rfl (Nat.le_of_ble_eq_true rfl) (fun w222 hk223 hz224 hB225 => ?_)) rfl
              replace hB225 : Box w222 b16 [.slice aw3 X1.length cw3, .slice a1 s1.length p1, .int .i64 (0), .slice a0 s0.length p0, .bool (true)] 27 := hB225
              replace hK := hK.later hk223 (fun i hi hS => by have h1 : i = b16 := hS; omega)
              replace hBsp := hBsp.kp hk223 (by show ¬ bsp = b16; omega)
              replace hT := hT.kp hk223 (fun h => by have h2 : (0 : Nat) = b16 := h; omega)
              replace hLs := hLs.kp hk223 (fun i _ hF hS => by have h1 : i < w.heap.size := hF; have h2 : i = b16 := hS; omega)
              replace hG := fun r hr => (hG r hr).kp hk223 (fun i _ hF hS => by have h1 : i < w.heap.size := hF; have h2 : i = b16 := hS; omega)
              replace hTr_w13 := hTr_w13.trans (hk223.mono (fun _ _ _ => trivial))
              replace hS0 := hS0.kp hk223 (fun i _ hF hS => by have h1 : i ≠ b16 ∧ i < w28.heap.size := hF; have h2 : i = b16 := hS; omega)
              replace hS1 := hS1.kp hk223 (fun i _ hF hS => by have h1 : i ≠ b16 ∧ i < w28.heap.size := hF; have h2 : i = b16 := hS; omega)
              replace hRx := hRx.kp hk223 (fun i _ hF hS => by have h1 : i < w.heap.size := hF; have h2 : i = b16 := hS; omega)
              replace hS0p := hS0p.kp hk223 (fun i _ hF hS => by have h1 : w53.heap.size ≤ i ∧ i < w193.heap.size := hF; have h2 : i = b16 := hS; omega)
              replace hS1p := hS1p.kp hk223 (fun i _ hF hS => by have h1 : w53.heap.size ≤ i ∧ i < w193.heap.size := hF; have h2 : i = b16 := hS; omega)
              replace hTr_w193 := hTr_w193.trans (hk223.mono (fun _ _ _ => trivial))
              replace hP := hP.kp hk223 (fun i _ hF hS => by have h1 : w205.heap.size ≤ i ∧ i < w219.heap.size := hF; have h2 : i = b16 := hS; omega)
              replace hTr_w219 := hTr_w219.trans (hk223.mono (fun _ _ _ => trivial))
              replace hB21 := hB225
              refine rl_nil ?_
              refine cw_seq ?_
              refine cw_region rfl ?_
              refine rl (o_loadBA (ds := [.slice aw3 X1.length cw3, .slice a1 s1.length p1, .int .i64 (0), .slice a0 s0.length p0, .bool (true)]) rfl hB21 tyA27 rfl rfl ?_) rfl
              refine rl (o_call (slots_ok (Fw := Non) _ _ _ _ _ _ X1 s1 s0 0 true _ _ _ _ rfl rfl rfl (by omega) (by omega) hP hS1) Tryd.call10 (fun v226 w227 hk228 hv229 => ?_)) rfl
              have hl_b16_w227 := hB21.lt
              have hl_bsp_w227 := hBsp.lt
              have hs_w227 := hK.size
              have hsk_w227 := hk228.size
              obtain ⟨bsq, as0q, as1q, cs0q, cs1q, rfl, hgsq, hBsq, hS0q, hS1q⟩ := hv229
              replace hK := hK.trans (Kp.ext hk228)
              replace hB21 := hB21.ext hk228
              replace hBsp := hBsp.ext hk228
              replace hT := hT.ext hk228
              replace hLs := hLs.ext hk228
              replace hG := fun r hr => (hG r hr).ext hk228
              replace hTr_w13 := hTr_w13.trans (Kp.ext hk228)
              replace hS0 := hS0.ext hk228
              replace hS1 := hS1.ext hk228
              replace hRx := hRx.ext hk228
              replace hS0p := hS0p.ext hk228
              replace hS1p := hS1p.ext hk228
              replace hTr_w193 := hTr_w193.trans (Kp.ext hk228)
              replace hP := hP.ext hk228
              replace hTr_w219 := hTr_w219.trans (Kp.ext hk228)
              replace hS0q := hS0q.mono (G := fun b => w222.heap.size ≤ b ∧ b < w227.heap.size) (fun b hb h => ⟨h, hb⟩)
              replace hS1q := hS1q.mono (G := fun b => w222.heap.size ≤ b ∧ b < w227.heap.size) (fun b hb h => ⟨h, hb⟩)
              have hTr_w227 := Kp.refl (fun _ => True) w227
              refine rl (o_assign (v := .slice ((some ⟨bsq, 0, none⟩)) 2 2) rfl ?_) rfl
              refine rl_nil ?_
              refine k_tn ?_
              refine cw_norm [(0, .slice al ls.length cl), (4, .pointer (some ⟨b16, 0, none⟩)), (5, .int .i64 ((i : Int))), (7, .slice ((some ⟨bsp, 0, none⟩)) 2 2), (8, .slice ((some ⟨bsq, 0, none⟩)) 2 2)] ⟨rfl, rfl, rfl, rfl, rfl, trivial⟩ (fun ρn230 => ?_)
              refine cw_seq ?_
              refine cw_region rfl ?_
              refine rl (o_loadBA (ds := [.slice aw3 X1.length cw3, .slice a1 s1.length p1, .int .i64 (0), .slice a0 s0.length p0, .bool (true)]) rfl hB21 tyA27 rfl rfl ?_) rfl
              refine rl (o_call (jload_to _ _ _ _ _ _ X1 s1 s0 0 true _ _ _ ⟨x9.b, x9.m, 0, x9.s.xs⟩ ((i : Int) + 1) true _ hj1 (decide_eq_true (by omega)) rfl rfl rfl (by omega) (by omega) hBX hh1.isB hT hP hS1) Tryd.call12 (fun v231 w232 hk233 hv234 => ?_)) rfl
              have hl_b16_w232 := hB21.lt
              have hl_bsp_w232 := hBsp.lt
              have hl_bsq_w232 := hBsq.lt
              have hs_w232 := hK.size
              have hsk_w232 := hk233.size
              obtain ⟨aol, cl9, rfl, hLl⟩ := hv234
              replace hK := hK.trans (Kp.ext hk233)
              replace hB21 := hB21.ext hk233
              replace hBsp := hBsp.ext hk233
              replace hBsq := hBsq.ext hk233
              replace hT := hT.ext hk233
              replace hLs := hLs.ext hk233
              replace hG := fun r hr => (hG r hr).ext hk233
              replace hTr_w13 := hTr_w13.trans (Kp.ext hk233)
              replace hS0 := hS0.ext hk233
              replace hS1 := hS1.ext hk233
              replace hRx := hRx.ext hk233
              replace hS0p := hS0p.ext hk233
              replace hS1p := hS1p.ext hk233
              replace hTr_w193 := hTr_w193.trans (Kp.ext hk233)
              replace hP := hP.ext hk233
              replace hTr_w219 := hTr_w219.trans (Kp.ext hk233)
              replace hS0q := hS0q.ext hk233
              replace hS1q := hS1q.ext hk233
              replace hTr_w227 := hTr_w227.trans (Kp.ext hk233)
              replace hLl := hLl.mono (G := fun b => w227.heap.size ≤ b ∧ b < w232.heap.size) (fun b hb h => ⟨h, hb⟩)
              have hTr_w232 := Kp.refl (fun _ => True) w232
              refine rl (o_move (v := .tuple #[.agg #[.int .i64 (x9.b), .int .i64 (x9.m), .int .i64 (0), .slice aol x9.s.xs.length cl9], .int .u64 ((i : Int) + 1), .bool (true)]) rfl ?_) rfl
              refine rl (o_extract (vs := [.agg #[.int .i64 (x9.b), .int .i64 (x9.m), .int .i64 (0), .slice aol x9.s.xs.length cl9], .int .u64 ((i : Int) + 1), .bool (true)]) (v := .agg #[.int .i64 (x9.b), .int .i64 (x9.m), .int .i64 (0), .slice aol x9.s.xs.length cl9]) rfl rfl ?_) rfl
              refine rl (o_extract (vs := [.agg #[.int .i64 (x9.b), .int .i64 (x9.m), .int .i64 (0), .slice aol x9.s.xs.length cl9], .int .u64 ((i : Int) + 1), .bool (true)]) (v := .int .u64 ((i : Int) + 1)) rfl rfl ?_) rfl
              refine rl (o_extract (vs := [.agg #[.int .i64 (x9.b), .int .i64 (x9.m), .int .i64 (0), .slice aol x9.s.xs.length cl9], .int .u64 ((i : Int) + 1), .bool (true)]) (v := .bool (true)) rfl rfl ?_) rfl
              refine rl (o_alloc Tryd.zeroValue32 (fun b235 w236 hb237 hz238 hk239 hB240 => ?_)) rfl
              replace hB240 : Box w236 b235 [.int .i64 (0), .int .i64 (0), .int .i64 (0), .slice none 0 0] 32 := hB240
              have hs_b235 := hK.size
              have hl_b16_b235 := hB21.lt
              have hl_bsp_b235 := hBsp.lt
              have hl_bsq_b235 := hBsq.lt
              have ht_hTr_w13_b235 := hTr_w13.size
              have ht_hTr_w193_b235 := hTr_w193.size
              have ht_hTr_w219_b235 := hTr_w219.size
              have ht_hTr_w227_b235 := hTr_w227.size
              have ht_hTr_w232_b235 := hTr_w232.size
              replace hK := hK.trans (Kp.ext hk239)
              replace hB21 := hB21.ext hk239
              replace hBsp := hBsp.ext hk239
              replace hBsq := hBsq.ext hk239
              replace hT := hT.ext hk239
              replace hLs := hLs.ext hk239
              replace hG := fun r hr => (hG r hr).ext hk239
              replace hTr_w13 := hTr_w13.trans (Kp.ext hk239)
              replace hS0 := hS0.ext hk239
              replace hS1 := hS1.ext hk239
              replace hRx := hRx.ext hk239
              replace hS0p := hS0p.ext hk239
              replace hS1p := hS1p.ext hk239
              replace hTr_w193 := hTr_w193.trans (Kp.ext hk239)
              replace hP := hP.ext hk239
              replace hTr_w219 := hTr_w219.trans (Kp.ext hk239)
              replace hS0q := hS0q.ext hk239
              replace hS1q := hS1q.ext hk239
              replace hTr_w227 := hTr_w227.trans (Kp.ext hk239)
              replace hLl := hLl.ext hk239
              replace hTr_w232 := hTr_w232.trans (Kp.ext hk239)
              refine rl0 (o_storeA (vs := [.int .i64 (x9.b), .int .i64 (x9.m), .int .i64 (0), .slice aol x9.s.xs.length cl9]) rfl rfl hB240 tyA32 rfl rfl (Nat.le_of_ble_eq_true rfl) (fun w241 hk242 hz243 hB244 => ?_)) rfl
              replace hB244 : Box w241 b235 [.int .i64 (x9.b), .int .i64 (x9.m), .int .i64 (0), .slice aol x9.s.xs.length cl9] 32 := hB244
              replace hK := hK.later hk242 (fun i hi hS => by have h1 : i = b235 := hS; omega)
              replace hB21 := hB21.kp hk242 (by show ¬ b16 = b235; omega)
              replace hBsp := hBsp.kp hk242 (by show ¬ bsp = b235; omega)
              replace hBsq := hBsq.kp hk242 (by show ¬ bsq = b235; omega)
              replace hT := hT.kp hk242 (fun h => by have h2 : (0 : Nat) = b235 := h; omega)
              replace hLs := hLs.kp hk242 (fun i _ hF hS => by have h1 : i < w.heap.size := hF; have h2 : i = b235 := hS; omega)
              replace hG := fun r hr => (hG r hr).kp hk242 (fun i _ hF hS => by have h1 : i < w.heap.size := hF; have h2 : i = b235 := hS; omega)
              replace hTr_w13 := hTr_w13.trans (hk242.mono (fun _ _ _ => trivial))
              replace hS0 := hS0.kp hk242 (fun i _ hF hS => by have h1 : i ≠ b16 ∧ i < w28.heap.size := hF; have h2 : i = b235 := hS; omega)
              replace hS1 := hS1.kp hk242 (fun i _ hF hS => by have h1 : i ≠ b16 ∧ i < w28.heap.size := hF; have h2 : i = b235 := hS; omega)
              replace hRx := hRx.kp hk242 (fun i _ hF hS => by have h1 : i < w.heap.size := hF; have h2 : i = b235 := hS; omega)
              replace hS0p := hS0p.kp hk242 (fun i _ hF hS => by have h1 : w53.heap.size ≤ i ∧ i < w193.heap.size := hF; have h2 : i = b235 := hS; omega)
              replace hS1p := hS1p.kp hk242 (fun i _ hF hS => by have h1 : w53.heap.size ≤ i ∧ i < w193.heap.size := hF; have h2 : i = b235 := hS; omega)
              replace hTr_w193 := hTr_w193.trans (hk242.mono (fun _ _ _ => trivial))
              replace hP := hP.kp hk242 (fun i _ hF hS => by have h1 : w205.heap.size ≤ i ∧ i < w219.heap.size := hF; have h2 : i = b235 := hS; omega)
              replace hTr_w219 := hTr_w219.trans (hk242.mono (fun _ _ _ => trivial))
              replace hS0q := hS0q.kp hk242 (fun i _ hF hS => by have h1 : w222.heap.size ≤ i ∧ i < w227.heap.size := hF; have h2 : i = b235 := hS; omega)
              replace hS1q := hS1q.kp hk242 (fun i _ hF hS => by have h1 : w222.heap.size ≤ i ∧ i < w227.heap.size := hF; have h2 : i = b235 := hS; omega)
              replace hTr_w227 := hTr_w227.trans (hk242.mono (fun _ _ _ => trivial))
              replace hLl := hLl.kp hk242 (fun i _ hF hS => by have h1 : w227.heap.size ≤ i ∧ i < w232.heap.size := hF; have h2 : i = b235 := hS; omega)
              replace hTr_w232 := hTr_w232.trans (hk242.mono (fun _ _ _ => trivial))
              replace hB240 := hB244
              refine rl (o_assign (v := .int .u64 ((i : Int) + 1)) rfl ?_) rfl
              refine rl (o_assign (v := .bool (true)) rfl ?_) rfl
              refine rl_nil ?_
              refine k_tn ?_
              refine cw_norm [(0, .slice al ls.length cl), (4, .pointer (some ⟨b16, 0, none⟩)), (5, .int .i64 ((i : Int))), (7, .slice ((some ⟨bsp, 0, none⟩)) 2 2), (8, .slice ((some ⟨bsq, 0, none⟩)) 2 2), (9, .pointer (some ⟨b235, 0, none⟩)), (10, .int .u64 ((i : Int) + 1)), (11, .bool (true))] ⟨rfl, rfl, rfl, rfl, rfl, rfl, rfl, rfl, trivial⟩ (fun ρn245 => ?_)
              refine cw_seq ?_
              obtain ⟨bz246, oz246, yz246, haoz246, hyez246, hAz246, hlt_bz246, hF_bz246⟩ := Rd.getF hLs i (by omega)
              replace hF_bz246 : bz246 < w.heap.size := hF_bz246
              obtain hxy : x9 = yz246 := Option.some.inj (hxe.symm.trans hyez246)
              subst hxy
              refine cw_region rfl ?_
              refine rl (o_move (v := .slice al ls.length cl) rfl ?_) rfl
              refine rl (o_move (v := .int .i64 ((i : Int))) rfl ?_) rfl
              refine rl (o_idxAt i rfl rfl Tryd.underlying22 Tryd.sizeOf32 haoz246 (by omega) (by omega) ?_) rfl
              refine rl (o_loadA (cs := [.int .i64 (x9.b), .int .i64 (x9.m), .int .i64 (x9.c), .slice x9.s.ao x9.s.xs.length x9.s.c]) rfl tyA32 rfl hAz246 ?_) rfl
              refine rl (o_call (of16_ok x9.b x9.m x9.c _ _ x9.s.xs _ _ rfl (by omega) hRx) Tryd.call13 (fun v253 w254 hk255 hv256 => ?_)) rfl
              have hl_b16_w254 := hB21.lt
              have hl_bsp_w254 := hBsp.lt
              have hl_bsq_w254 := hBsq.lt
              have hl_b235_w254 := hB240.lt
              have hs_w254 := hK.size
              have hsk_w254 := hk255.size
              obtain ⟨noa, aoa, coa, rfl, hnoa, hOa⟩ := hv256
              replace hK := hK.trans (Kp.ext hk255)
              replace hB21 := hB21.ext hk255
              replace hBsp := hBsp.ext hk255
              replace hBsq := hBsq.ext hk255
              replace hB240 := hB240.ext hk255
              replace hT := hT.ext hk255
              replace hLs := hLs.ext hk255
              replace hG := fun r hr => (hG r hr).ext hk255
              replace hTr_w13 := hTr_w13.trans (Kp.ext hk255)
              replace hS0 := hS0.ext hk255
              replace hS1 := hS1.ext hk255
              replace hRx := hRx.ext hk255
              replace hS0p := hS0p.ext hk255
              replace hS1p := hS1p.ext hk255
              replace hTr_w193 := hTr_w193.trans (Kp.ext hk255)
              replace hP := hP.ext hk255
              replace hTr_w219 := hTr_w219.trans (Kp.ext hk255)
              replace hS0q := hS0q.ext hk255
              replace hS1q := hS1q.ext hk255
              replace hTr_w227 := hTr_w227.trans (Kp.ext hk255)
              replace hLl := hLl.ext hk255
              replace hTr_w232 := hTr_w232.trans (Kp.ext hk255)
              replace hAz246 := At.ext hAz246 hk255
              subst hnoa
              replace hOa := hOa.mono (G := fun b => w241.heap.size ≤ b ∧ b < w254.heap.size) (fun b hb h => ⟨h, hb⟩)
              have hTr_w254 := Kp.refl (fun _ => True) w254
              refine rl (o_alloc Tryd.zeroValue41 (fun b257 w258 hb259 hz260 hk261 hB262 => ?_)) rfl
              replace hB262 : Box w258 b257 [.int .i64 (0), .int .i64 (0), .int .i64 (0), .slice none 0 0] 41 := hB262
              have hs_b257 := hK.size
              have hl_b16_b257 := hB21.lt
              have hl_bsp_b257 := hBsp.lt
              have hl_bsq_b257 := hBsq.lt
              have hl_b235_b257 := hB240.lt
              have ht_hTr_w13_b257 := hTr_w13.size
              have ht_hTr_w193_b257 := hTr_w193.size
              have ht_hTr_w219_b257 := hTr_w219.size
              have ht_hTr_w227_b257 := hTr_w227.size
              have ht_hTr_w232_b257 := hTr_w232.size
              have ht_hTr_w254_b257 := hTr_w254.size
              replace hK := hK.trans (Kp.ext hk261)
              replace hB21 := hB21.ext hk261
              replace hBsp := hBsp.ext hk261
              replace hBsq := hBsq.ext hk261
              replace hB240 := hB240.ext hk261
              replace hT := hT.ext hk261
              replace hLs := hLs.ext hk261
              replace hG := fun r hr => (hG r hr).ext hk261
              replace hTr_w13 := hTr_w13.trans (Kp.ext hk261)
              replace hS0 := hS0.ext hk261
              replace hS1 := hS1.ext hk261
              replace hRx := hRx.ext hk261
              replace hS0p := hS0p.ext hk261
              replace hS1p := hS1p.ext hk261
              replace hTr_w193 := hTr_w193.trans (Kp.ext hk261)
              replace hP := hP.ext hk261
              replace hTr_w219 := hTr_w219.trans (Kp.ext hk261)
              replace hS0q := hS0q.ext hk261
              replace hS1q := hS1q.ext hk261
              replace hTr_w227 := hTr_w227.trans (Kp.ext hk261)
              replace hLl := hLl.ext hk261
              replace hTr_w232 := hTr_w232.trans (Kp.ext hk261)
              replace hOa := hOa.ext hk261
              replace hTr_w254 := hTr_w254.trans (Kp.ext hk261)
              replace hAz246 := At.ext hAz246 hk261
              refine rl0 (o_storeA (vs := [.int .i64 (x9.b), .int .i64 (x9.m), .int .i64 (x9.c), .slice aoa x9.s.xs.length coa]) rfl rfl hB262 tyA41 rfl rfl (Nat.le_of_ble_eq_true rfl) (fun w263 hk264 hz265 hB266 => ?_)) rfl
              replace hB266 : Box w263 b257 [.int .i64 (x9.b), .int .i64 (x9.m), .int .i64 (x9.c), .slice aoa x9.s.xs.length coa] 41 := hB266
              replace hK := hK.later hk264 (fun i hi hS => by have h1 : i = b257 := hS; omega)
              replace hB21 := hB21.kp hk264 (by show ¬ b16 = b257; omega)
              replace hBsp := hBsp.kp hk264 (by show ¬ bsp = b257; omega)
              replace hBsq := hBsq.kp hk264 (by show ¬ bsq = b257; omega)
              replace hB240 := hB240.kp hk264 (by show ¬ b235 = b257; omega)
              replace hT := hT.kp hk264 (fun h => by have h2 : (0 : Nat) = b257 := h; omega)
              replace hLs := hLs.kp hk264 (fun i _ hF hS => by have h1 : i < w.heap.size := hF; have h2 : i = b257 := hS; omega)
              replace hG := fun r hr => (hG r hr).kp hk264 (fun i _ hF hS => by have h1 : i < w.heap.size := hF; have h2 : i = b257 := hS; omega)
              replace hTr_w13 := hTr_w13.trans (hk264.mono (fun _ _ _ => trivial))
              replace hS0 := hS0.kp hk264 (fun i _ hF hS => by have h1 : i ≠ b16 ∧ i < w28.heap.size := hF; have h2 : i = b257 := hS; omega)
              replace hS1 := hS1.kp hk264 (fun i _ hF hS => by have h1 : i ≠ b16 ∧ i < w28.heap.size := hF; have h2 : i = b257 := hS; omega)
              replace hRx := hRx.kp hk264 (fun i _ hF hS => by have h1 : i < w.heap.size := hF; have h2 : i = b257 := hS; omega)
              replace hS0p := hS0p.kp hk264 (fun i _ hF hS => by have h1 : w53.heap.size ≤ i ∧ i < w193.heap.size := hF; have h2 : i = b257 := hS; omega)
              replace hS1p := hS1p.kp hk264 (fun i _ hF hS => by have h1 : w53.heap.size ≤ i ∧ i < w193.heap.size := hF; have h2 : i = b257 := hS; omega)
              replace hTr_w193 := hTr_w193.trans (hk264.mono (fun _ _ _ => trivial))
              replace hP := hP.kp hk264 (fun i _ hF hS => by have h1 : w205.heap.size ≤ i ∧ i < w219.heap.size := hF; have h2 : i = b257 := hS; omega)
              replace hTr_w219 := hTr_w219.trans (hk264.mono (fun _ _ _ => trivial))
              replace hS0q := hS0q.kp hk264 (fun i _ hF hS => by have h1 : w222.heap.size ≤ i ∧ i < w227.heap.size := hF; have h2 : i = b257 := hS; omega)
              replace hS1q := hS1q.kp hk264 (fun i _ hF hS => by have h1 : w222.heap.size ≤ i ∧ i < w227.heap.size := hF; have h2 : i = b257 := hS; omega)
              replace hTr_w227 := hTr_w227.trans (hk264.mono (fun _ _ _ => trivial))
              replace hLl := hLl.kp hk264 (fun i _ hF hS => by have h1 : w227.heap.size ≤ i ∧ i < w232.heap.size := hF; have h2 : i = b257 := hS; omega)
              replace hTr_w232 := hTr_w232.trans (hk264.mono (fun _ _ _ => trivial))
              replace hOa := hOa.kp hk264 (fun i _ hF hS => by have h1 : w241.heap.size ≤ i ∧ i < w254.heap.size := hF; have h2 : i = b257 := hS; omega)
              replace hTr_w254 := hTr_w254.trans (hk264.mono (fun _ _ _ => trivial))
              replace hB262 := hB266
              refine rl_nil ?_
              refine k_tn ?_
              refine cw_norm [(0, .slice al ls.length cl), (4, .pointer (some ⟨b16, 0, none⟩)), (5, .int .i64 ((i : Int))), (7, .slice ((some ⟨bsp, 0, none⟩)) 2 2), (8, .slice ((some ⟨bsq, 0, none⟩)) 2 2), (9, .pointer (some ⟨b235, 0, none⟩)), (10, .int .u64 ((i : Int) + 1)), (11, .bool (true)), (12, .pointer (some ⟨b257, 0, none⟩))] ⟨rfl, rfl, rfl, rfl, rfl, rfl, rfl, rfl, rfl, trivial⟩ (fun ρn267 => ?_)
              refine cw_seq ?_
              refine cw_region rfl ?_
              refine rl (o_field rfl fa41_2 ?_) rfl
              refine rl0 (o_store1 (v := .int .i64 (0)) rfl rfl hB262 tyS3 rfl (Nat.le_of_ble_eq_true rfl) (fun w268 hk269 hz270 hB271 => ?_)) rfl
              replace hB271 : Box w268 b257 [.int .i64 (x9.b), .int .i64 (x9.m), .int .i64 (0), .slice aoa x9.s.xs.length coa] 41 := hB271
              replace hK := hK.later hk269 (fun i hi hS => by have h1 : i = b257 := hS; omega)
              replace hB21 := hB21.kp hk269 (by show ¬ b16 = b257; omega)
              replace hBsp := hBsp.kp hk269 (by show ¬ bsp = b257; omega)
              replace hBsq := hBsq.kp hk269 (by show ¬ bsq = b257; omega)
              replace hB240 := hB240.kp hk269 (by show ¬ b235 = b257; omega)
              replace hT := hT.kp hk269 (fun h => by have h2 : (0 : Nat) = b257 := h; omega)
              replace hLs := hLs.kp hk269 (fun i _ hF hS => by have h1 : i < w.heap.size := hF; have h2 : i = b257 := hS; omega)
              replace hG := fun r hr => (hG r hr).kp hk269 (fun i _ hF hS => by have h1 : i < w.heap.size := hF; have h2 : i = b257 := hS; omega)
              replace hTr_w13 := hTr_w13.trans (hk269.mono (fun _ _ _ => trivial))
              replace hS0 := hS0.kp hk269 (fun i _ hF hS => by have h1 : i ≠ b16 ∧ i < w28.heap.size := hF; have h2 : i = b257 := hS; omega)
              replace hS1 := hS1.kp hk269 (fun i _ hF hS => by have h1 : i ≠ b16 ∧ i < w28.heap.size := hF; have h2 : i = b257 := hS; omega)
              replace hRx := hRx.kp hk269 (fun i _ hF hS => by have h1 : i < w.heap.size := hF; have h2 : i = b257 := hS; omega)
              replace hS0p := hS0p.kp hk269 (fun i _ hF hS => by have h1 : w53.heap.size ≤ i ∧ i < w193.heap.size := hF; have h2 : i = b257 := hS; omega)
              replace hS1p := hS1p.kp hk269 (fun i _ hF hS => by have h1 : w53.heap.size ≤ i ∧ i < w193.heap.size := hF; have h2 : i = b257 := hS; omega)
              replace hTr_w193 := hTr_w193.trans (hk269.mono (fun _ _ _ => trivial))
              replace hP := hP.kp hk269 (fun i _ hF hS => by have h1 : w205.heap.size ≤ i ∧ i < w219.heap.size := hF; have h2 : i = b257 := hS; omega)
              replace hTr_w219 := hTr_w219.trans (hk269.mono (fun _ _ _ => trivial))
              replace hS0q := hS0q.kp hk269 (fun i _ hF hS => by have h1 : w222.heap.size ≤ i ∧ i < w227.heap.size := hF; have h2 : i = b257 := hS; omega)
              replace hS1q := hS1q.kp hk269 (fun i _ hF hS => by have h1 : w222.heap.size ≤ i ∧ i < w227.heap.size := hF; have h2 : i = b257 := hS; omega)
              replace hTr_w227 := hTr_w227.trans (hk269.mono (fun _ _ _ => trivial))
              replace hLl := hLl.kp hk269 (fun i _ hF hS => by have h1 : w227.heap.size ≤ i ∧ i < w232.heap.size := hF; have h2 : i = b257 := hS; omega)
              replace hTr_w232 := hTr_w232.trans (hk269.mono (fun _ _ _ => trivial))
              replace hOa := hOa.kp hk269 (fun i _ hF hS => by have h1 : w241.heap.size ≤ i ∧ i < w254.heap.size := hF; have h2 : i = b257 := hS; omega)
              replace hTr_w254 := hTr_w254.trans (hk269.mono (fun _ _ _ => trivial))
              replace hB262 := hB271
              refine rl_nil ?_
              refine k_tn ?_
              refine cw_norm [(0, .slice al ls.length cl), (4, .pointer (some ⟨b16, 0, none⟩)), (5, .int .i64 ((i : Int))), (7, .slice ((some ⟨bsp, 0, none⟩)) 2 2), (8, .slice ((some ⟨bsq, 0, none⟩)) 2 2), (9, .pointer (some ⟨b235, 0, none⟩)), (10, .int .u64 ((i : Int) + 1)), (11, .bool (true)), (12, .pointer (some ⟨b257, 0, none⟩))] ⟨rfl, rfl, rfl, rfl, rfl, rfl, rfl, rfl, rfl, trivial⟩ (fun ρn272 => ?_)
              refine cw_seq ?_
              have ht_hTr_w13_d5 := hTr_w13.size
              have ht_hTr_w193_d5 := hTr_w193.size
              have ht_hTr_w219_d5 := hTr_w219.size
              have ht_hTr_w227_d5 := hTr_w227.size
              have ht_hTr_w232_d5 := hTr_w232.size
              have ht_hTr_w254_d5 := hTr_w254.size
              have hl_b16_d5 := hB21.lt
              have hl_bsp_d5 := hBsp.lt
              have hl_bsq_d5 := hBsq.lt
              have hl_b235_d5 := hB240.lt
              have hl_b257_d5 := hB262.lt
              refine cw_norm [(0, .slice al ls.length cl), (4, .pointer (some ⟨b16, 0, none⟩)), (5, .int .i64 ((i : Int))), (7, .slice ((some ⟨bsp, 0, none⟩)) 2 2), (8, .slice ((some ⟨bsq, 0, none⟩)) 2 2), (9, .pointer (some ⟨b235, 0, none⟩)), (10, .int .u64 ((i : Int) + 1)), (11, .bool (true)), (12, .pointer (some ⟨b257, 0, none⟩))] ⟨rfl, rfl, rfl, rfl, rfl, rfl, rfl, rfl, rfl, trivial⟩ (fun ρr277 => ?_)
              have hsr5 := hK.size
              refine cw_drawnK (fun _ => False) 26 [.val (.bool (true)), .val (.bool (false)), .val (.bool (false)), .val (.int .u64 ((i : Int) + 1)), .val (.int .i64 ((i : Int))), .val (.int .u64 ((i : Int))), .val (.int .u64 ((i : Int) + 1)), .val (.bool (false)), .val (.bool (false)), .val (.bool (false)), .val (.agg #[.int .i64 (x9.b), .int .i64 (x9.m), .int .i64 (0), .slice aol x9.s.xs.length cl9]), .fact (fun c wq => (cv c 0) = .agg #[.int .i64 (x9.b), .int .i64 (x9.m), .int .i64 (0), .slice (sAo (tAt (cv c 0) 3)) x9.s.xs.length (sCap (tAt (cv c 0) 3))] ∧ (w268.heap.size ≤ (ca c 0)) ∧ (Rd (fun b => (ca c 0) ≤ b ∧ b < (ce c 0)) wq 2 (.slice (sAo (tAt (cv c 0) 3)) x9.s.xs.length (sCap (tAt (cv c 0) 3))) ((x9.s.xs).map encP))), .val (.agg #[.int .i64 (x9.b), .int .i64 (x9.m), .int .i64 (0), .slice aoa x9.s.xs.length coa])] [.val (.bool (true)), .val (.bool (false)), .val (.bool (false)), .val (.int .u64 ((i : Int) + 1)), .val (.int .i64 ((i : Int))), .val (.int .u64 ((i : Int))), .val (.int .u64 ((i : Int) + 1)), .val (.bool (false)), .val (.bool (false)), .val (.bool (false)), .val (.agg #[.int .i64 (x9.b), .int .i64 (x9.m), .int .i64 (0), .slice aol x9.s.xs.length cl9]), .fact (fun c wq => (cv c 0) = .agg #[.int .i64 (x9.b), .int .i64 (x9.m), .int .i64 (0), .slice (sAo (tAt (cv c 0) 3)) x9.s.xs.length (sCap (tAt (cv c 0) 3))] ∧ (w268.heap.size ≤ (ca c 0)) ∧ (Rd (fun b => (ca c 0) ≤ b ∧ b < (ce c 0)) wq 2 (.slice (sAo (tAt (cv c 0) 3)) x9.s.xs.length (sCap (tAt (cv c 0) 3))) ((x9.s.xs).map encP))), .val (.agg #[.int .i64 (x9.b), .int .i64 (x9.m), .int .i64 (0), .slice aoa x9.s.xs.length coa])] [[], [0], [0, 1], [0, 1, 2], [0, 1, 2], [0, 1, 2, 4], [0, 1, 2, 4, 5], [0, 1, 2, 3, 4, 5, 6], [0, 1, 2, 3, 4, 5, 6, 7], [0, 1, 2, 3, 4, 5, 6, 7, 8], [0, 1, 2, 3, 4, 5, 6, 7, 8, 9], [0, 1, 2, 3, 4, 5, 6, 7, 8, 9, 10], [0, 1, 2, 3, 4, 5, 6, 7, 8, 9], [0, 1, 2, 3, 4, 5, 6, 7, 8, 9, 10, 11, 12], [0, 1, 2, 3, 4, 5, 6, 7, 8, 9, 10, 11, 12, 13], [0, 1, 2, 3, 4, 5, 6, 7, 8, 9, 10, 11, 12, 13, 14], [0, 1, 2, 3, 4, 5, 6, 7, 8, 9, 10, 11, 12, 13, 14, 15], [0, 1, 2, 3, 4, 5, 6, 7, 8, 9, 10, 11, 12, 13, 14, 15, 16], [0, 1, 2, 3, 4, 5, 6, 7, 8, 9, 10, 11, 12, 13, 14, 15, 16, 17], [0, 1, 2, 3, 4, 5, 6, 7, 8, 9, 10, 11, 12, 13, 14, 15, 16, 17, 18], [0, 1, 2, 3, 4, 5, 6, 7, 8, 9, 10, 11, 12, 13, 14, 15, 16, 17, 18, 19], [0, 1, 2, 3, 4, 5, 6, 7, 8, 9, 10, 11, 12, 13, 14, 15, 16, 17, 18, 19, 20], [0, 1, 2, 3, 4, 5, 6, 7, 8, 9, 10, 11, 12, 13, 14, 15, 16, 17, 18, 19, 20, 21], [0, 1, 2, 3, 4, 5, 6, 7, 8, 9, 10, 11, 12, 13, 14, 15, 16, 17, 18, 19, 20, 21, 22], [0, 1, 2, 3, 4, 5, 6, 7, 8, 9, 10, 11, 12, 13, 14, 15, 16, 17, 18, 19, 20, 21, 22, 23], [0, 1, 2, 3, 4, 5, 6, 7, 8, 9, 10, 11, 12, 13, 14, 15, 16, 17, 18, 19, 20, 21, 22, 23, 24]] 13 mixed (by kernel_rfl) ⟨upK_val, upK_val, upK_val, upK_val, upK_val, upK_val, upK_val, upK_val, upK_val, upK_val, upK_val, upK_no rfl rfl (fun c wq wq' ⟨hv, hlo11, hOb⟩ hk => ⟨hv, hlo11, hOb.ext hk⟩), upK_val, trivial⟩ ⟨⟨⟨⟨⟨⟨⟨⟨⟨⟨⟨⟨⟨trivial, ?_⟩, ?_⟩, ?_⟩, ?_⟩, ?_⟩, ?_⟩, ?_⟩, ?_⟩, ?_⟩, ?_⟩, ?_⟩, ?_⟩, ?_⟩ (fun w278 vs279 lo280 hi281 hE282 hkn283 hap284 => ?_)
              · refine oblK_post rfl rfl (fun w278k vs lo hi hE hkn hap => ?_)
                have hEs := hE.size
                replace hK := hK.trans (Kp.ext hE)
                replace hB21 := hB21.ext hE
                replace hBsp := hBsp.ext hE
                replace hBsq := hBsq.ext hE
                replace hB240 := hB240.ext hE
                replace hB262 := hB262.ext hE
                replace hT := hT.ext hE
                replace hLs := hLs.ext hE
                replace hG := fun r hr => (hG r hr).ext hE
                replace hTr_w13 := hTr_w13.trans (Kp.ext hE)
                replace hS0 := hS0.ext hE
                replace hS1 := hS1.ext hE
                replace hRx := hRx.ext hE
                replace hS0p := hS0p.ext hE
                replace hS1p := hS1p.ext hE
                replace hTr_w193 := hTr_w193.trans (Kp.ext hE)
                replace hP := hP.ext hE
                replace hTr_w219 := hTr_w219.trans (Kp.ext hE)
                replace hS0q := hS0q.ext hE
                replace hS1q := hS1q.ext hE
                replace hTr_w227 := hTr_w227.trans (Kp.ext hE)
                replace hLl := hLl.ext hE
                replace hTr_w232 := hTr_w232.trans (Kp.ext hE)
                replace hOa := hOa.ext hE
                replace hTr_w254 := hTr_w254.trans (Kp.ext hE)
                refine oblK_n rfl ?_
                refine opk_norm [(11, .bool (true))] ⟨rfl, trivial⟩ (fun ρq => ?_)
                refine o_move (v := .bool (true)) rfl ?_
                exact ⟨Kp.refl _ _, rfl⟩
              · refine oblK_post rfl rfl (fun w278k vs lo hi hE hkn hap => ?_)
                have hEs := hE.size
                replace hK := hK.trans (Kp.ext hE)
                replace hB21 := hB21.ext hE
                replace hBsp := hBsp.ext hE
                replace hBsq := hBsq.ext hE
                replace hB240 := hB240.ext hE
                replace hB262 := hB262.ext hE
                replace hT := hT.ext hE
                replace hLs := hLs.ext hE
                replace hG := fun r hr => (hG r hr).ext hE
                replace hTr_w13 := hTr_w13.trans (Kp.ext hE)
                replace hS0 := hS0.ext hE
                replace hS1 := hS1.ext hE
                replace hRx := hRx.ext hE
                replace hS0p := hS0p.ext hE
                replace hS1p := hS1p.ext hE
                replace hTr_w193 := hTr_w193.trans (Kp.ext hE)
                replace hP := hP.ext hE
                replace hTr_w219 := hTr_w219.trans (Kp.ext hE)
                replace hS0q := hS0q.ext hE
                replace hS1q := hS1q.ext hE
                replace hTr_w227 := hTr_w227.trans (Kp.ext hE)
                replace hLl := hLl.ext hE
                replace hTr_w232 := hTr_w232.trans (Kp.ext hE)
                replace hOa := hOa.ext hE
                replace hTr_w254 := hTr_w254.trans (Kp.ext hE)
                refine oblK_n rfl ?_
                refine opk_norm [(64, .bool (true))] ⟨rfl, trivial⟩ (fun ρq => ?_)
                refine o_not rfl ?_
                exact ⟨Kp.refl _ _, rfl⟩
              · refine oblK_post rfl rfl (fun w278k vs lo hi hE hkn hap => ?_)
                have hEs := hE.size
                replace hK := hK.trans (Kp.ext hE)
                replace hB21 := hB21.ext hE
                replace hBsp := hBsp.ext hE
                replace hBsq := hBsq.ext hE
                replace hB240 := hB240.ext hE
                replace hB262 := hB262.ext hE
                replace hT := hT.ext hE
                replace hLs := hLs.ext hE
                replace hG := fun r hr => (hG r hr).ext hE
                replace hTr_w13 := hTr_w13.trans (Kp.ext hE)
                replace hS0 := hS0.ext hE
                replace hS1 := hS1.ext hE
                replace hRx := hRx.ext hE
                replace hS0p := hS0p.ext hE
                replace hS1p := hS1p.ext hE
                replace hTr_w193 := hTr_w193.trans (Kp.ext hE)
                replace hP := hP.ext hE
                replace hTr_w219 := hTr_w219.trans (Kp.ext hE)
                replace hS0q := hS0q.ext hE
                replace hS1q := hS1q.ext hE
                replace hTr_w227 := hTr_w227.trans (Kp.ext hE)
                replace hLl := hLl.ext hE
                replace hTr_w232 := hTr_w232.trans (Kp.ext hE)
                replace hOa := hOa.ext hE
                replace hTr_w254 := hTr_w254.trans (Kp.ext hE)
                refine oblK_n rfl ?_
                refine opk_norm [(65, .bool (false))] ⟨rfl, trivial⟩ (fun ρq => ?_)
                refine o_move (v := .bool (false)) rfl ?_
                exact ⟨Kp.refl _ _, rfl⟩
              · refine oblK_post rfl rfl (fun w278k vs lo hi hE hkn hap => ?_)
                have hEs := hE.size
                replace hK := hK.trans (Kp.ext hE)
                replace hB21 := hB21.ext hE
                replace hBsp := hBsp.ext hE
                replace hBsq := hBsq.ext hE
                replace hB240 := hB240.ext hE
                replace hB262 := hB262.ext hE
                replace hT := hT.ext hE
                replace hLs := hLs.ext hE
                replace hG := fun r hr => (hG r hr).ext hE
                replace hTr_w13 := hTr_w13.trans (Kp.ext hE)
                replace hS0 := hS0.ext hE
                replace hS1 := hS1.ext hE
                replace hRx := hRx.ext hE
                replace hS0p := hS0p.ext hE
                replace hS1p := hS1p.ext hE
                replace hTr_w193 := hTr_w193.trans (Kp.ext hE)
                replace hP := hP.ext hE
                replace hTr_w219 := hTr_w219.trans (Kp.ext hE)
                replace hS0q := hS0q.ext hE
                replace hS1q := hS1q.ext hE
                replace hTr_w227 := hTr_w227.trans (Kp.ext hE)
                replace hLl := hLl.ext hE
                replace hTr_w232 := hTr_w232.trans (Kp.ext hE)
                replace hOa := hOa.ext hE
                replace hTr_w254 := hTr_w254.trans (Kp.ext hE)
                refine oblK_n (want_t rfl (rfl)) ?_
                refine opk_norm [(10, .int .u64 ((i : Int) + 1)), (66, .bool (false))] ⟨rfl, rfl, trivial⟩ (fun ρq => ?_)
                refine o_move (v := .int .u64 ((i : Int) + 1)) rfl ?_
                exact ⟨Kp.refl _ _, rfl⟩
              · refine oblK_post rfl rfl (fun w278k vs lo hi hE hkn hap => ?_)
                have hEs := hE.size
                replace hK := hK.trans (Kp.ext hE)
                replace hB21 := hB21.ext hE
                replace hBsp := hBsp.ext hE
                replace hBsq := hBsq.ext hE
                replace hB240 := hB240.ext hE
                replace hB262 := hB262.ext hE
                replace hT := hT.ext hE
                replace hLs := hLs.ext hE
                replace hG := fun r hr => (hG r hr).ext hE
                replace hTr_w13 := hTr_w13.trans (Kp.ext hE)
                replace hS0 := hS0.ext hE
                replace hS1 := hS1.ext hE
                replace hRx := hRx.ext hE
                replace hS0p := hS0p.ext hE
                replace hS1p := hS1p.ext hE
                replace hTr_w193 := hTr_w193.trans (Kp.ext hE)
                replace hP := hP.ext hE
                replace hTr_w219 := hTr_w219.trans (Kp.ext hE)
                replace hS0q := hS0q.ext hE
                replace hS1q := hS1q.ext hE
                replace hTr_w227 := hTr_w227.trans (Kp.ext hE)
                replace hLl := hLl.ext hE
                replace hTr_w232 := hTr_w232.trans (Kp.ext hE)
                replace hOa := hOa.ext hE
                replace hTr_w254 := hTr_w254.trans (Kp.ext hE)
                refine oblK_n (want_t rfl (rfl)) ?_
                refine opk_norm [(5, .int .i64 ((i : Int))), (66, .bool (false))] ⟨rfl, rfl, trivial⟩ (fun ρq => ?_)
                refine o_move (v := .int .i64 ((i : Int))) rfl ?_
                exact ⟨Kp.refl _ _, rfl⟩
              · refine oblK_post rfl rfl (fun w278k vs lo hi hE hkn hap => ?_)
                have hEs := hE.size
                replace hK := hK.trans (Kp.ext hE)
                replace hB21 := hB21.ext hE
                replace hBsp := hBsp.ext hE
                replace hBsq := hBsq.ext hE
                replace hB240 := hB240.ext hE
                replace hB262 := hB262.ext hE
                replace hT := hT.ext hE
                replace hLs := hLs.ext hE
                replace hG := fun r hr => (hG r hr).ext hE
                replace hTr_w13 := hTr_w13.trans (Kp.ext hE)
                replace hS0 := hS0.ext hE
                replace hS1 := hS1.ext hE
                replace hRx := hRx.ext hE
                replace hS0p := hS0p.ext hE
                replace hS1p := hS1p.ext hE
                replace hTr_w193 := hTr_w193.trans (Kp.ext hE)
                replace hP := hP.ext hE
                replace hTr_w219 := hTr_w219.trans (Kp.ext hE)
                replace hS0q := hS0q.ext hE
                replace hS1q := hS1q.ext hE
                replace hTr_w227 := hTr_w227.trans (Kp.ext hE)
                replace hLl := hLl.ext hE
                replace hTr_w232 := hTr_w232.trans (Kp.ext hE)
                replace hOa := hOa.ext hE
                replace hTr_w254 := hTr_w254.trans (Kp.ext hE)
                refine oblK_n (want_t rfl (rfl)) ?_
                refine opk_norm [(66, .bool (false)), (68, .int .i64 ((i : Int)))] ⟨rfl, rfl, trivial⟩ (fun ρq => ?_)
                refine o_convI (a := (i : Int)) rfl ⟨_, Tryd.underlying3⟩ Tryd.underlying36 (by show (0 : Int) ≤ _; omega) (by show _ ≤ (18446744073709551615 : Int); omega) ?_
                exact ⟨Kp.refl _ _, rfl⟩
              · refine oblK_post rfl rfl (fun w278k vs lo hi hE hkn hap => ?_)
                have hEs := hE.size
                replace hK := hK.trans (Kp.ext hE)
                replace hB21 := hB21.ext hE
                replace hBsp := hBsp.ext hE
                replace hBsq := hBsq.ext hE
                replace hB240 := hB240.ext hE
                replace hB262 := hB262.ext hE
                replace hT := hT.ext hE
                replace hLs := hLs.ext hE
                replace hG := fun r hr => (hG r hr).ext hE
                replace hTr_w13 := hTr_w13.trans (Kp.ext hE)
                replace hS0 := hS0.ext hE
                replace hS1 := hS1.ext hE
                replace hRx := hRx.ext hE
                replace hS0p := hS0p.ext hE
                replace hS1p := hS1p.ext hE
                replace hTr_w193 := hTr_w193.trans (Kp.ext hE)
                replace hP := hP.ext hE
                replace hTr_w219 := hTr_w219.trans (Kp.ext hE)
                replace hS0q := hS0q.ext hE
                replace hS1q := hS1q.ext hE
                replace hTr_w227 := hTr_w227.trans (Kp.ext hE)
                replace hLl := hLl.ext hE
                replace hTr_w232 := hTr_w232.trans (Kp.ext hE)
                replace hOa := hOa.ext hE
                replace hTr_w254 := hTr_w254.trans (Kp.ext hE)
                refine oblK_n (want_t rfl (rfl)) ?_
                refine opk_norm [(66, .bool (false)), (69, .int .u64 ((i : Int)))] ⟨rfl, rfl, trivial⟩ (fun ρq => ?_)
                refine o_addE rfl rfl (by omega) (by omega) ?_
                exact ⟨Kp.refl _ _, rfl⟩
              · refine oblK_post rfl rfl (fun w278k vs lo hi hE hkn hap => ?_)
                have hEs := hE.size
                replace hK := hK.trans (Kp.ext hE)
                replace hB21 := hB21.ext hE
                replace hBsp := hBsp.ext hE
                replace hBsq := hBsq.ext hE
                replace hB240 := hB240.ext hE
                replace hB262 := hB262.ext hE
                replace hT := hT.ext hE
                replace hLs := hLs.ext hE
                replace hG := fun r hr => (hG r hr).ext hE
                replace hTr_w13 := hTr_w13.trans (Kp.ext hE)
                replace hS0 := hS0.ext hE
                replace hS1 := hS1.ext hE
                replace hRx := hRx.ext hE
                replace hS0p := hS0p.ext hE
                replace hS1p := hS1p.ext hE
                replace hTr_w193 := hTr_w193.trans (Kp.ext hE)
                replace hP := hP.ext hE
                replace hTr_w219 := hTr_w219.trans (Kp.ext hE)
                replace hS0q := hS0q.ext hE
                replace hS1q := hS1q.ext hE
                replace hTr_w227 := hTr_w227.trans (Kp.ext hE)
                replace hLl := hLl.ext hE
                replace hTr_w232 := hTr_w232.trans (Kp.ext hE)
                replace hOa := hOa.ext hE
                replace hTr_w254 := hTr_w254.trans (Kp.ext hE)
                refine oblK_n (want_t rfl (rfl)) ?_
                refine opk_norm [(66, .bool (false)), (67, .int .u64 ((i : Int) + 1)), (70, .int .u64 ((i : Int) + 1))] ⟨rfl, rfl, rfl, trivial⟩ (fun ρq => ?_)
                refine o_neqT (a := (i : Int) + 1) rfl rfl rfl ?_
                exact ⟨Kp.refl _ _, rfl⟩
              · refine oblK_post rfl rfl (fun w278k vs lo hi hE hkn hap => ?_)
                have hEs := hE.size
                replace hK := hK.trans (Kp.ext hE)
                replace hB21 := hB21.ext hE
                replace hBsp := hBsp.ext hE
                replace hBsq := hBsq.ext hE
                replace hB240 := hB240.ext hE
                replace hB262 := hB262.ext hE
                replace hT := hT.ext hE
                replace hLs := hLs.ext hE
                replace hG := fun r hr => (hG r hr).ext hE
                replace hTr_w13 := hTr_w13.trans (Kp.ext hE)
                replace hS0 := hS0.ext hE
                replace hS1 := hS1.ext hE
                replace hRx := hRx.ext hE
                replace hS0p := hS0p.ext hE
                replace hS1p := hS1p.ext hE
                replace hTr_w193 := hTr_w193.trans (Kp.ext hE)
                replace hP := hP.ext hE
                replace hTr_w219 := hTr_w219.trans (Kp.ext hE)
                replace hS0q := hS0q.ext hE
                replace hS1q := hS1q.ext hE
                replace hTr_w227 := hTr_w227.trans (Kp.ext hE)
                replace hLl := hLl.ext hE
                replace hTr_w232 := hTr_w232.trans (Kp.ext hE)
                replace hOa := hOa.ext hE
                replace hTr_w254 := hTr_w254.trans (Kp.ext hE)
                refine oblK_n rfl ?_
                refine opk_norm [(66, .bool (false)), (71, .bool (false))] ⟨rfl, rfl, trivial⟩ (fun ρq => ?_)
                refine o_pickF (v := .bool (false)) rfl (rfl) rfl ?_
                exact ⟨Kp.refl _ _, rfl⟩
              · refine oblK_post rfl rfl (fun w278k vs lo hi hE hkn hap => ?_)
                have hEs := hE.size
                replace hK := hK.trans (Kp.ext hE)
                replace hB21 := hB21.ext hE
                replace hBsp := hBsp.ext hE
                replace hBsq := hBsq.ext hE
                replace hB240 := hB240.ext hE
                replace hB262 := hB262.ext hE
                replace hT := hT.ext hE
                replace hLs := hLs.ext hE
                replace hG := fun r hr => (hG r hr).ext hE
                replace hTr_w13 := hTr_w13.trans (Kp.ext hE)
                replace hS0 := hS0.ext hE
                replace hS1 := hS1.ext hE
                replace hRx := hRx.ext hE
                replace hS0p := hS0p.ext hE
                replace hS1p := hS1p.ext hE
                replace hTr_w193 := hTr_w193.trans (Kp.ext hE)
                replace hP := hP.ext hE
                replace hTr_w219 := hTr_w219.trans (Kp.ext hE)
                replace hS0q := hS0q.ext hE
                replace hS1q := hS1q.ext hE
                replace hTr_w227 := hTr_w227.trans (Kp.ext hE)
                replace hLl := hLl.ext hE
                replace hTr_w232 := hTr_w232.trans (Kp.ext hE)
                replace hOa := hOa.ext hE
                replace hTr_w254 := hTr_w254.trans (Kp.ext hE)
                refine oblK_n rfl ?_
                refine opk_norm [(72, .bool (false))] ⟨rfl, trivial⟩ (fun ρq => ?_)
                refine o_move (v := .bool (false)) rfl ?_
                exact ⟨Kp.refl _ _, rfl⟩
              · refine oblK_post rfl rfl (fun w278k vs lo hi hE hkn hap => ?_)
                have hEs := hE.size
                replace hK := hK.trans (Kp.ext hE)
                replace hB21 := hB21.ext hE
                replace hBsp := hBsp.ext hE
                replace hBsq := hBsq.ext hE
                replace hB240 := hB240.ext hE
                replace hB262 := hB262.ext hE
                replace hT := hT.ext hE
                replace hLs := hLs.ext hE
                replace hG := fun r hr => (hG r hr).ext hE
                replace hTr_w13 := hTr_w13.trans (Kp.ext hE)
                replace hS0 := hS0.ext hE
                replace hS1 := hS1.ext hE
                replace hRx := hRx.ext hE
                replace hS0p := hS0p.ext hE
                replace hS1p := hS1p.ext hE
                replace hTr_w193 := hTr_w193.trans (Kp.ext hE)
                replace hP := hP.ext hE
                replace hTr_w219 := hTr_w219.trans (Kp.ext hE)
                replace hS0q := hS0q.ext hE
                replace hS1q := hS1q.ext hE
                replace hTr_w227 := hTr_w227.trans (Kp.ext hE)
                replace hLl := hLl.ext hE
                replace hTr_w232 := hTr_w232.trans (Kp.ext hE)
                replace hOa := hOa.ext hE
                replace hTr_w254 := hTr_w254.trans (Kp.ext hE)
                refine oblK_n (want_t rfl (rfl)) ?_
                refine opk_norm [(9, .pointer (some ⟨b235, 0, none⟩)), (73, .bool (false))] ⟨rfl, rfl, trivial⟩ (fun ρq => ?_)
                refine o_loadBA (ds := [.int .i64 (x9.b), .int .i64 (x9.m), .int .i64 (0), .slice aol x9.s.xs.length cl9]) rfl hB240 tyA32 rfl rfl ?_
                exact ⟨Kp.refl _ _, rfl⟩
              · refine oblK_post rfl rfl (fun w278k vs lo hi hE hkn hap => ?_)
                have hEs := hE.size
                replace hK := hK.trans (Kp.ext hE)
                replace hB21 := hB21.ext hE
                replace hBsp := hBsp.ext hE
                replace hBsq := hBsq.ext hE
                replace hB240 := hB240.ext hE
                replace hB262 := hB262.ext hE
                replace hT := hT.ext hE
                replace hLs := hLs.ext hE
                replace hG := fun r hr => (hG r hr).ext hE
                replace hTr_w13 := hTr_w13.trans (Kp.ext hE)
                replace hS0 := hS0.ext hE
                replace hS1 := hS1.ext hE
                replace hRx := hRx.ext hE
                replace hS0p := hS0p.ext hE
                replace hS1p := hS1p.ext hE
                replace hTr_w193 := hTr_w193.trans (Kp.ext hE)
                replace hP := hP.ext hE
                replace hTr_w219 := hTr_w219.trans (Kp.ext hE)
                replace hS0q := hS0q.ext hE
                replace hS1q := hS1q.ext hE
                replace hTr_w227 := hTr_w227.trans (Kp.ext hE)
                replace hLl := hLl.ext hE
                replace hTr_w232 := hTr_w232.trans (Kp.ext hE)
                replace hOa := hOa.ext hE
                replace hTr_w254 := hTr_w254.trans (Kp.ext hE)
                refine oblK_n (want_t rfl (rfl)) ?_
                refine opk_norm [(73, .bool (false)), (74, .agg #[.int .i64 (x9.b), .int .i64 (x9.m), .int .i64 (0), .slice aol x9.s.xs.length cl9])] ⟨rfl, rfl, trivial⟩ (fun ρq => ?_)
                refine o_call (of16_ok x9.b x9.m 0 _ _ x9.s.xs _ _ rfl (by omega) hLl) Tryd.call13 (fun v285 w286 hk287 hv288 => ?_)
                have hl_b16_w286 := hB21.lt
                have hl_bsp_w286 := hBsp.lt
                have hl_bsq_w286 := hBsq.lt
                have hl_b235_w286 := hB240.lt
                have hl_b257_w286 := hB262.lt
                have hs_w286 := hK.size
                have hsk_w286 := hk287.size
                obtain ⟨nob, aob, cob, rfl, hnob, hOb⟩ := hv288
                replace hK := hK.trans (Kp.ext hk287)
                replace hB21 := hB21.ext hk287
                replace hBsp := hBsp.ext hk287
                replace hBsq := hBsq.ext hk287
                replace hB240 := hB240.ext hk287
                replace hB262 := hB262.ext hk287
                replace hT := hT.ext hk287
                replace hLs := hLs.ext hk287
                replace hG := fun r hr => (hG r hr).ext hk287
                replace hTr_w13 := hTr_w13.trans (Kp.ext hk287)
                replace hS0 := hS0.ext hk287
                replace hS1 := hS1.ext hk287
                replace hRx := hRx.ext hk287
                replace hS0p := hS0p.ext hk287
                replace hS1p := hS1p.ext hk287
                replace hTr_w193 := hTr_w193.trans (Kp.ext hk287)
                replace hP := hP.ext hk287
                replace hTr_w219 := hTr_w219.trans (Kp.ext hk287)
                replace hS0q := hS0q.ext hk287
                replace hS1q := hS1q.ext hk287
                replace hTr_w227 := hTr_w227.trans (Kp.ext hk287)
                replace hLl := hLl.ext hk287
                replace hTr_w232 := hTr_w232.trans (Kp.ext hk287)
                replace hOa := hOa.ext hk287
                replace hTr_w254 := hTr_w254.trans (Kp.ext hk287)
                subst hnob
                exact ⟨hk287, rfl, hEs, hOb.mono (fun b hb h => ⟨h, hb⟩)⟩
              · refine oblK_post rfl rfl (fun w278k vs lo hi hE hkn hap => ?_)
                have hEs := hE.size
                replace hK := hK.trans (Kp.ext hE)
                replace hB21 := hB21.ext hE
                replace hBsp := hBsp.ext hE
                replace hBsq := hBsq.ext hE
                replace hB240 := hB240.ext hE
                replace hB262 := hB262.ext hE
                replace hT := hT.ext hE
                replace hLs := hLs.ext hE
                replace hG := fun r hr => (hG r hr).ext hE
                replace hTr_w13 := hTr_w13.trans (Kp.ext hE)
                replace hS0 := hS0.ext hE
                replace hS1 := hS1.ext hE
                replace hRx := hRx.ext hE
                replace hS0p := hS0p.ext hE
                replace hS1p := hS1p.ext hE
                replace hTr_w193 := hTr_w193.trans (Kp.ext hE)
                replace hP := hP.ext hE
                replace hTr_w219 := hTr_w219.trans (Kp.ext hE)
                replace hS0q := hS0q.ext hE
                replace hS1q := hS1q.ext hE
                replace hTr_w227 := hTr_w227.trans (Kp.ext hE)
                replace hLl := hLl.ext hE
                replace hTr_w232 := hTr_w232.trans (Kp.ext hE)
                replace hOa := hOa.ext hE
                replace hTr_w254 := hTr_w254.trans (Kp.ext hE)
                refine oblK_n (want_t rfl (rfl)) ?_
                refine opk_norm [(12, .pointer (some ⟨b257, 0, none⟩)), (73, .bool (false))] ⟨rfl, rfl, trivial⟩ (fun ρq => ?_)
                refine o_loadBA (ds := [.int .i64 (x9.b), .int .i64 (x9.m), .int .i64 (0), .slice aoa x9.s.xs.length coa]) rfl hB262 tyA41 rfl rfl ?_
                exact ⟨Kp.refl _ _, rfl⟩
              have hsE5 := hE282.size
              replace hK := hK.trans (Kp.ext hE282)
              replace hB21 := hB21.ext hE282
              replace hBsp := hBsp.ext hE282
              replace hBsq := hBsq.ext hE282
              replace hB240 := hB240.ext hE282
              replace hB262 := hB262.ext hE282
              replace hT := hT.ext hE282
              replace hLs := hLs.ext hE282
              replace hG := fun r hr => (hG r hr).ext hE282
              replace hTr_w13 := hTr_w13.trans (Kp.ext hE282)
              replace hS0 := hS0.ext hE282
              replace hS1 := hS1.ext hE282
              replace hRx := hRx.ext hE282
              replace hS0p := hS0p.ext hE282
              replace hS1p := hS1p.ext hE282
              replace hTr_w193 := hTr_w193.trans (Kp.ext hE282)
              replace hP := hP.ext hE282
              replace hTr_w219 := hTr_w219.trans (Kp.ext hE282)
              replace hS0q := hS0q.ext hE282
              replace hS1q := hS1q.ext hE282
              replace hTr_w227 := hTr_w227.trans (Kp.ext hE282)
              replace hLl := hLl.ext hE282
              replace hTr_w232 := hTr_w232.trans (Kp.ext hE282)
              replace hOa := hOa.ext hE282
              replace hTr_w254 := hTr_w254.trans (Kp.ext hE282)
              obtain ⟨-, ⟨⟨hv11_t, hlo11_t, hOb_t⟩, hq1_11, hq2_11, hq3_11⟩, -, -, -, -, -, -, -, -, -, -, -, -⟩ := hkn283
              obtain ⟨aob, cob, hv11, hlo11, hOb⟩ : ∃ (aob : Option Addr) (cob : Nat), (vs279 11 = .agg #[.int .i64 (x9.b), .int .i64 (x9.m), .int .i64 (0), .slice aob x9.s.xs.length cob]) ∧ (w268.heap.size ≤ (lo280 11)) ∧ (Rd (fun b => (lo280 11) ≤ b ∧ b < (hi281 11)) w278 2 (.slice aob x9.s.xs.length cob) ((x9.s.xs).map encP)) := ⟨_, _, hv11_t, hlo11_t, hOb_t⟩
              clear hOb_t hlo11_t hv11_t
              replace hq1_11 : w268.heap.size ≤ lo280 11 := hq1_11
              replace hq2_11 : lo280 11 ≤ hi281 11 := hq2_11
              replace hq3_11 : hi281 11 ≤ w278.heap.size := hq3_11
              refine rl_norm [(0, .slice al ls.length cl), (4, .pointer (some ⟨b16, 0, none⟩)), (5, .int .i64 ((i : Int))), (7, .slice ((some ⟨bsp, 0, none⟩)) 2 2), (8, .slice ((some ⟨bsq, 0, none⟩)) 2 2), (10, .int .u64 ((i : Int) + 1)), (73, .bool (false)), (75, .agg #[.int .i64 (x9.b), .int .i64 (x9.m), .int .i64 (0), .slice aob x9.s.xs.length cob]), (76, .agg #[.int .i64 (x9.b), .int .i64 (x9.m), .int .i64 (0), .slice aoa x9.s.xs.length coa])] ⟨rfl, rfl, rfl, rfl, rfl, rfl, rfl, hv11, rfl, trivial⟩ (fun ρr277q => ?_)
              refine rl (o_call (same_to x9.b x9.m 0 _ _ _ _ x9.s.xs _ _ _ rfl rfl (by omega) hOb hOa) Tryd.call14 (fun v289 w290 hk291 hv292 => ?_)) (want_t rfl (rfl))
              have hl_b16_w290 := hB21.lt
              have hl_bsp_w290 := hBsp.lt
              have hl_bsq_w290 := hBsq.lt
              have hl_b235_w290 := hB240.lt
              have hl_b257_w290 := hB262.lt
              have hs_w290 := hK.size
              have hsk_w290 := hk291.size
              obtain rfl := hv292
              replace hK := hK.trans (Kp.ext hk291)
              replace hB21 := hB21.ext hk291
              replace hBsp := hBsp.ext hk291
              replace hBsq := hBsq.ext hk291
              replace hB240 := hB240.ext hk291
              replace hB262 := hB262.ext hk291
              replace hT := hT.ext hk291
              replace hLs := hLs.ext hk291
              replace hG := fun r hr => (hG r hr).ext hk291
              replace hTr_w13 := hTr_w13.trans (Kp.ext hk291)
              replace hS0 := hS0.ext hk291
              replace hS1 := hS1.ext hk291
              replace hRx := hRx.ext hk291
              replace hS0p := hS0p.ext hk291
              replace hS1p := hS1p.ext hk291
              replace hTr_w193 := hTr_w193.trans (Kp.ext hk291)
              replace hP := hP.ext hk291
              replace hTr_w219 := hTr_w219.trans (Kp.ext hk291)
              replace hS0q := hS0q.ext hk291
              replace hS1q := hS1q.ext hk291
              replace hTr_w227 := hTr_w227.trans (Kp.ext hk291)
              replace hLl := hLl.ext hk291
              replace hTr_w232 := hTr_w232.trans (Kp.ext hk291)
              replace hOa := hOa.ext hk291
              replace hTr_w254 := hTr_w254.trans (Kp.ext hk291)
              replace hOb := hOb.ext hk291
              refine rl (o_not rfl ?_) (want_t rfl (rfl))
              refine rl (o_pickF (v := .bool (false)) rfl (rfl) rfl ?_) rfl
              refine rl (o_move (v := .bool (false)) rfl ?_) rfl
              refine rl (o_move (v := .slice ((some ⟨bsp, 0, none⟩)) 2 2) rfl ?_) (want_t rfl (rfl))
              refine rl (o_len rfl Tryd.underlying33 ?_) (want_t rfl (rfl))
              refine rl (o_neq rfl rfl ?_) (want_t rfl (rfl))
              refine rl (o_pickF (v := .bool (false)) rfl (rfl) rfl ?_) rfl
              refine rl (o_move (v := .bool (false)) rfl ?_) rfl
              refine rl (o_move (v := .slice ((some ⟨bsq, 0, none⟩)) 2 2) rfl ?_) (want_t rfl (rfl))
              refine rl (o_len rfl Tryd.underlying33 ?_) (want_t rfl (rfl))
              refine rl (o_neq rfl rfl ?_) (want_t rfl (rfl))
              refine rl (o_pickF (v := .bool (false)) rfl (rfl) rfl ?_) rfl
              refine rl_nil ?_
              refine cw_condF rfl ?_
              refine cw_skip ?_
              refine k_tn ?_
              refine cw_norm [(0, .slice al ls.length cl), (4, .pointer (some ⟨b16, 0, none⟩)), (5, .int .i64 ((i : Int))), (7, .slice ((some ⟨bsp, 0, none⟩)) 2 2), (8, .slice ((some ⟨bsq, 0, none⟩)) 2 2), (10, .int .u64 ((i : Int) + 1))] ⟨rfl, rfl, rfl, rfl, rfl, rfl, trivial⟩ (fun ρn293 => ?_)
              refine cw_seq ?_
              refine cw_region rfl ?_
              refine rl (o_move (v := .int .i64 ((i : Int))) rfl ?_) rfl
              refine rl (o_add64 (a := (i : Int)) (b := 1) rfl rfl (by omega) (by omega) ?_) rfl
              refine rl (o_remE 0 rfl rfl (by decide) (by omega) (by omega) ?_) rfl
              refine rl (o_assign (v := .int .i64 (0)) rfl ?_) rfl
              refine rl_nil ?_
              refine k_tn ?_
              refine cw_norm [(0, .slice al ls.length cl), (4, .pointer (some ⟨b16, 0, none⟩)), (5, .int .i64 ((i : Int))), (7, .slice ((some ⟨bsp, 0, none⟩)) 2 2), (8, .slice ((some ⟨bsq, 0, none⟩)) 2 2), (10, .int .u64 ((i : Int) + 1)), (13, .int .i64 (0))] ⟨rfl, rfl, rfl, rfl, rfl, rfl, rfl, trivial⟩ (fun ρn294 => ?_)
              obtain ⟨bz295, oz295, yz295, haoz295, hyez295, hAz295, hlt_bz295, hF_bz295⟩ := Rd.getF hLs i (by omega)
              replace hF_bz295 : bz295 < w.heap.size := hF_bz295
              obtain hxy : x9 = yz295 := Option.some.inj (hxe.symm.trans hyez295)
              subst hxy
              have ht_hTr_w13_d6 := hTr_w13.size
              have ht_hTr_w193_d6 := hTr_w193.size
              have ht_hTr_w219_d6 := hTr_w219.size
              have ht_hTr_w227_d6 := hTr_w227.size
              have ht_hTr_w232_d6 := hTr_w232.size
              have ht_hTr_w254_d6 := hTr_w254.size
              have hl_b16_d6 := hB21.lt
              have hl_bsp_d6 := hBsp.lt
              have hl_bsq_d6 := hBsq.lt
              have hl_b235_d6 := hB240.lt
              have hl_b257_d6 := hB262.lt
              refine cw_norm [(0, .slice al ls.length cl), (4, .pointer (some ⟨b16, 0, none⟩)), (5, .int .i64 ((i : Int))), (7, .slice ((some ⟨bsp, 0, none⟩)) 2 2), (8, .slice ((some ⟨bsq, 0, none⟩)) 2 2), (10, .int .u64 ((i : Int) + 1)), (13, .int .i64 (0))] ⟨rfl, rfl, rfl, rfl, rfl, rfl, rfl, trivial⟩ (fun ρr306 => ?_)
              have hsr6 := hK.size
              refine cw_drawnK (fun _ => False) 28 [.val (.slice ((some ⟨bsq, 0, none⟩)) 2 2), .val (.int .i64 (0)), .val (.int .i64 (1)), .val (.pointer (some ⟨bsq, 1, none⟩)), .val (.slice as1q s1.length cs1q), .val (.string (strOf s1)), .val (.slice ((some ⟨bsp, 0, none⟩)) 2 2), .val (.int .i64 (0)), .val (.int .i64 (1)), .val (.pointer (some ⟨bsp, 1, none⟩)), .val (.slice as1p s1.length cs1p), .val (.string (strOf s1)), .val (.bool (false)), .val (.bool (false)), .val (.slice ((some ⟨bsq, 0, none⟩)) 2 2), .val (.int .i64 (0)), .val (.pointer (some ⟨bsq, 0, none⟩)), .val (.slice as0q X1.length cs0q), .val (.string (strOf X1)), .val (.slice al ls.length cl), .val (.int .i64 ((i : Int))), .val (.pointer (some ⟨bz295, oz295 + i * 4, none⟩)), .val (.agg #[.int .i64 (x9.b), .int .i64 (x9.m), .int .i64 (x9.c), .slice x9.s.ao x9.s.xs.length x9.s.c]), .val (.int .u64 ((i : Int) + 1)), .fact (fun c wq => (cv c 0) = .slice (sAo (cv c 0)) X1.length (sCap (cv c 0)) ∧ (w290.heap.size ≤ (ca c 0)) ∧ (Rd (fun b => (ca c 0) ≤ b ∧ b < (ce c 0)) wq 1 (.slice (sAo (cv c 0)) X1.length (sCap (cv c 0))) ((X1).map encB))), .val (.string (strOf X1))] [.val (.slice ((some ⟨bsq, 0, none⟩)) 2 2), .val (.int .i64 (0)), .val (.int .i64 (1)), .val (.pointer (some ⟨bsq, 1, none⟩)), .val (.slice as1q s1.length cs1q), .val (.string (strOf s1)), .val (.slice ((some ⟨bsp, 0, none⟩)) 2 2), .val (.int .i64 (0)), .val (.int .i64 (1)), .val (.pointer (some ⟨bsp, 1, none⟩)), .val (.slice as1p s1.length cs1p), .val (.string (strOf s1)), .val (.bool (false)), .val (.bool (false)), .val (.slice ((some ⟨bsq, 0, none⟩)) 2 2), .val (.int .i64 (0)), .val (.pointer (some ⟨bsq, 0, none⟩)), .val (.slice as0q X1.length cs0q), .val (.string (strOf X1)), .val (.slice al ls.length cl), .val (.int .i64 ((i : Int))), .val (.pointer (some ⟨bz295, oz295 + i * 4, none⟩)), .val (.agg #[.int .i64 (x9.b), .int .i64 (x9.m), .int .i64 (x9.c), .slice x9.s.ao x9.s.xs.length x9.s.c]), .val (.int .u64 ((i : Int) + 1)), .fact (fun c wq => (cv c 0) = .slice (sAo (cv c 0)) X1.length (sCap (cv c 0)) ∧ (w290.heap.size ≤ (ca c 0)) ∧ (Rd (fun b => (ca c 0) ≤ b ∧ b < (ce c 0)) wq 1 (.slice (sAo (cv c 0)) X1.length (sCap (cv c 0))) ((X1).map encB))), .val (.string (strOf X1))] [[], [], [1], [0, 1, 2], [0, 1, 2, 3], [0, 1, 2, 3, 4], [], [], [7], [6, 7, 8], [6, 7, 8, 9], [6, 7, 8, 9, 10], [0, 1, 2, 3, 4, 5, 6, 7, 8, 9, 10, 11], [0, 1, 2, 3, 4, 5, 6, 7, 8, 9, 10, 11, 12], [0, 1, 2, 3, 4, 5, 6, 7, 8, 9, 10, 11, 12, 13], [0, 1, 2, 3, 4, 5, 6, 7, 8, 9, 10, 11, 12, 13], [0, 1, 2, 3, 4, 5, 6, 7, 8, 9, 10, 11, 12, 13, 14, 15], [0, 1, 2, 3, 4, 5, 6, 7, 8, 9, 10, 11, 12, 13, 14, 15, 16], [0, 1, 2, 3, 4, 5, 6, 7, 8, 9, 10, 11, 12, 13, 14, 15, 16, 17], [0, 1, 2, 3, 4, 5, 6, 7, 8, 9, 10, 11, 12, 13], [0, 1, 2, 3, 4, 5, 6, 7, 8, 9, 10, 11, 12, 13], [0, 1, 2, 3, 4, 5, 6, 7, 8, 9, 10, 11, 12, 13, 19, 20], [0, 1, 2, 3, 4, 5, 6, 7, 8, 9, 10, 11, 12, 13, 19, 20, 21], [0, 1, 2, 3, 4, 5, 6, 7, 8, 9, 10, 11, 12, 13], [0, 1, 2, 3, 4, 5, 6, 7, 8, 9, 10, 11, 12, 13, 19, 20, 21, 22, 23], [0, 1, 2, 3, 4, 5, 6, 7, 8, 9, 10, 11, 12, 13, 19, 20, 21, 22, 23, 24], [0, 1, 2, 3, 4, 5, 6, 7, 8, 9, 10, 11, 12, 13, 14, 15, 16, 17, 18, 19, 20, 21, 22, 23, 24, 25], [0, 1, 2, 3, 4, 5, 6, 7, 8, 9, 10, 11, 12, 13, 14, 15, 16, 17, 18, 19, 20, 21, 22, 23, 24, 25, 26]] 26 mixed (by kernel_rfl) ⟨upK_val, upK_val, upK_val, upK_val, upK_val, upK_val, upK_val, upK_val, upK_val, upK_val, upK_val, upK_val, upK_val, upK_val, upK_val, upK_val, upK_val, upK_val, upK_val, upK_val, upK_val, upK_val, upK_val, upK_val, upK_no rfl rfl (fun c wq wq' ⟨hv, hlo24, hJ⟩ hk => ⟨hv, hlo24, hJ.ext hk⟩), upK_val, trivial⟩ ⟨⟨⟨⟨⟨⟨⟨⟨⟨⟨⟨⟨⟨⟨⟨⟨⟨⟨⟨⟨⟨⟨⟨⟨⟨⟨trivial, ?_⟩, ?_⟩, ?_⟩, ?_⟩, ?_⟩, ?_⟩, ?_⟩, ?_⟩, ?_⟩, ?_⟩, ?_⟩, ?_⟩, ?_⟩, ?_⟩, ?_⟩, ?_⟩, ?_⟩, ?_⟩, ?_⟩, ?_⟩, ?_⟩, ?_⟩, ?_⟩, ?_⟩, ?_⟩, ?_⟩ (fun w307 vs308 lo309 hi310 hE311 hkn312 hap313 => ?_)
              · refine oblK_post rfl rfl (fun w307k vs lo hi hE hkn hap => ?_)
                have hEs := hE.size
                replace hK := hK.trans (Kp.ext hE)
                replace hB21 := hB21.ext hE
                replace hBsp := hBsp.ext hE
                replace hBsq := hBsq.ext hE
                replace hB240 := hB240.ext hE
                replace hB262 := hB262.ext hE
                replace hT := hT.ext hE
                replace hLs := hLs.ext hE
                replace hG := fun r hr => (hG r hr).ext hE
                replace hTr_w13 := hTr_w13.trans (Kp.ext hE)
                replace hS0 := hS0.ext hE
                replace hS1 := hS1.ext hE
                replace hRx := hRx.ext hE
                replace hS0p := hS0p.ext hE
                replace hS1p := hS1p.ext hE
                replace hTr_w193 := hTr_w193.trans (Kp.ext hE)
                replace hP := hP.ext hE
                replace hTr_w219 := hTr_w219.trans (Kp.ext hE)
                replace hS0q := hS0q.ext hE
                replace hS1q := hS1q.ext hE
                replace hTr_w227 := hTr_w227.trans (Kp.ext hE)
                replace hLl := hLl.ext hE
                replace hTr_w232 := hTr_w232.trans (Kp.ext hE)
                replace hOa := hOa.ext hE
                replace hTr_w254 := hTr_w254.trans (Kp.ext hE)
                replace hOb := hOb.ext hE
                replace hAz295 := At.ext hAz295 hE
                refine oblK_n rfl ?_
                refine opk_norm [(8, .slice ((some ⟨bsq, 0, none⟩)) 2 2)] ⟨rfl, trivial⟩ (fun ρq => ?_)
                refine o_move (v := .slice ((some ⟨bsq, 0, none⟩)) 2 2) rfl ?_
                exact ⟨Kp.refl _ _, rfl⟩
              · refine oblK_post rfl rfl (fun w307k vs lo hi hE hkn hap => ?_)
                have hEs := hE.size
                replace hK := hK.trans (Kp.ext hE)
                replace hB21 := hB21.ext hE
                replace hBsp := hBsp.ext hE
                replace hBsq := hBsq.ext hE
                replace hB240 := hB240.ext hE
                replace hB262 := hB262.ext hE
                replace hT := hT.ext hE
                replace hLs := hLs.ext hE
                replace hG := fun r hr => (hG r hr).ext hE
                replace hTr_w13 := hTr_w13.trans (Kp.ext hE)
                replace hS0 := hS0.ext hE
                replace hS1 := hS1.ext hE
                replace hRx := hRx.ext hE
                replace hS0p := hS0p.ext hE
                replace hS1p := hS1p.ext hE
                replace hTr_w193 := hTr_w193.trans (Kp.ext hE)
                replace hP := hP.ext hE
                replace hTr_w219 := hTr_w219.trans (Kp.ext hE)
                replace hS0q := hS0q.ext hE
                replace hS1q := hS1q.ext hE
                replace hTr_w227 := hTr_w227.trans (Kp.ext hE)
                replace hLl := hLl.ext hE
                replace hTr_w232 := hTr_w232.trans (Kp.ext hE)
                replace hOa := hOa.ext hE
                replace hTr_w254 := hTr_w254.trans (Kp.ext hE)
                replace hOb := hOb.ext hE
                replace hAz295 := At.ext hAz295 hE
                refine oblK_n rfl ?_
                refine opk_norm [(13, .int .i64 (0))] ⟨rfl, trivial⟩ (fun ρq => ?_)
                refine o_move (v := .int .i64 (0)) rfl ?_
                exact ⟨Kp.refl _ _, rfl⟩
              · refine oblK_post rfl rfl (fun w307k vs lo hi hE hkn hap => ?_)
                have hEs := hE.size
                replace hK := hK.trans (Kp.ext hE)
                replace hB21 := hB21.ext hE
                replace hBsp := hBsp.ext hE
                replace hBsq := hBsq.ext hE
                replace hB240 := hB240.ext hE
                replace hB262 := hB262.ext hE
                replace hT := hT.ext hE
                replace hLs := hLs.ext hE
                replace hG := fun r hr => (hG r hr).ext hE
                replace hTr_w13 := hTr_w13.trans (Kp.ext hE)
                replace hS0 := hS0.ext hE
                replace hS1 := hS1.ext hE
                replace hRx := hRx.ext hE
                replace hS0p := hS0p.ext hE
                replace hS1p := hS1p.ext hE
                replace hTr_w193 := hTr_w193.trans (Kp.ext hE)
                replace hP := hP.ext hE
                replace hTr_w219 := hTr_w219.trans (Kp.ext hE)
                replace hS0q := hS0q.ext hE
                replace hS1q := hS1q.ext hE
                replace hTr_w227 := hTr_w227.trans (Kp.ext hE)
                replace hLl := hLl.ext hE
                replace hTr_w232 := hTr_w232.trans (Kp.ext hE)
                replace hOa := hOa.ext hE
                replace hTr_w254 := hTr_w254.trans (Kp.ext hE)
                replace hOb := hOb.ext hE
                replace hAz295 := At.ext hAz295 hE
                refine oblK_n rfl ?_
                refine opk_norm [(94, .int .i64 (0))] ⟨rfl, trivial⟩ (fun ρq => ?_)
                refine o_sub64 (a := 1) (b := 0) rfl rfl (by omega) (by omega) ?_
                exact ⟨Kp.refl _ _, rfl⟩
              · refine oblK_post rfl rfl (fun w307k vs lo hi hE hkn hap => ?_)
                have hEs := hE.size
                replace hK := hK.trans (Kp.ext hE)
                replace hB21 := hB21.ext hE
                replace hBsp := hBsp.ext hE
                replace hBsq := hBsq.ext hE
                replace hB240 := hB240.ext hE
                replace hB262 := hB262.ext hE
                replace hT := hT.ext hE
                replace hLs := hLs.ext hE
                replace hG := fun r hr => (hG r hr).ext hE
                replace hTr_w13 := hTr_w13.trans (Kp.ext hE)
                replace hS0 := hS0.ext hE
                replace hS1 := hS1.ext hE
                replace hRx := hRx.ext hE
                replace hS0p := hS0p.ext hE
                replace hS1p := hS1p.ext hE
                replace hTr_w193 := hTr_w193.trans (Kp.ext hE)
                replace hP := hP.ext hE
                replace hTr_w219 := hTr_w219.trans (Kp.ext hE)
                replace hS0q := hS0q.ext hE
                replace hS1q := hS1q.ext hE
                replace hTr_w227 := hTr_w227.trans (Kp.ext hE)
                replace hLl := hLl.ext hE
                replace hTr_w232 := hTr_w232.trans (Kp.ext hE)
                replace hOa := hOa.ext hE
                replace hTr_w254 := hTr_w254.trans (Kp.ext hE)
                replace hOb := hOb.ext hE
                replace hAz295 := At.ext hAz295 hE
                refine oblK_n rfl ?_
                refine opk_norm [(93, .slice ((some ⟨bsq, 0, none⟩)) 2 2), (95, .int .i64 (1))] ⟨rfl, rfl, trivial⟩ (fun ρq => ?_)
                refine o_idxAt 1 rfl rfl Tryd.underlying33 Tryd.sizeOf24 rfl rfl (by decide) ?_
                exact ⟨Kp.refl _ _, rfl⟩
              · refine oblK_post rfl rfl (fun w307k vs lo hi hE hkn hap => ?_)
                have hEs := hE.size
                replace hK := hK.trans (Kp.ext hE)
                replace hB21 := hB21.ext hE
                replace hBsp := hBsp.ext hE
                replace hBsq := hBsq.ext hE
                replace hB240 := hB240.ext hE
                replace hB262 := hB262.ext hE
                replace hT := hT.ext hE
                replace hLs := hLs.ext hE
                replace hG := fun r hr => (hG r hr).ext hE
                replace hTr_w13 := hTr_w13.trans (Kp.ext hE)
                replace hS0 := hS0.ext hE
                replace hS1 := hS1.ext hE
                replace hRx := hRx.ext hE
                replace hS0p := hS0p.ext hE
                replace hS1p := hS1p.ext hE
                replace hTr_w193 := hTr_w193.trans (Kp.ext hE)
                replace hP := hP.ext hE
                replace hTr_w219 := hTr_w219.trans (Kp.ext hE)
                replace hS0q := hS0q.ext hE
                replace hS1q := hS1q.ext hE
                replace hTr_w227 := hTr_w227.trans (Kp.ext hE)
                replace hLl := hLl.ext hE
                replace hTr_w232 := hTr_w232.trans (Kp.ext hE)
                replace hOa := hOa.ext hE
                replace hTr_w254 := hTr_w254.trans (Kp.ext hE)
                replace hOb := hOb.ext hE
                replace hAz295 := At.ext hAz295 hE
                refine oblK_n rfl ?_
                refine opk_norm [(96, .pointer (some ⟨bsq, 1, none⟩))] ⟨rfl, trivial⟩ (fun ρq => ?_)
                refine o_loadB (v := .slice as1q s1.length cs1q) rfl hBsq tyS24 rfl ?_
                exact ⟨Kp.refl _ _, rfl⟩
              · refine oblK_post rfl rfl (fun w307k vs lo hi hE hkn hap => ?_)
                have hEs := hE.size
                replace hK := hK.trans (Kp.ext hE)
                replace hB21 := hB21.ext hE
                replace hBsp := hBsp.ext hE
                replace hBsq := hBsq.ext hE
                replace hB240 := hB240.ext hE
                replace hB262 := hB262.ext hE
                replace hT := hT.ext hE
                replace hLs := hLs.ext hE
                replace hG := fun r hr => (hG r hr).ext hE
                replace hTr_w13 := hTr_w13.trans (Kp.ext hE)
                replace hS0 := hS0.ext hE
                replace hS1 := hS1.ext hE
                replace hRx := hRx.ext hE
                replace hS0p := hS0p.ext hE
                replace hS1p := hS1p.ext hE
                replace hTr_w193 := hTr_w193.trans (Kp.ext hE)
                replace hP := hP.ext hE
                replace hTr_w219 := hTr_w219.trans (Kp.ext hE)
                replace hS0q := hS0q.ext hE
                replace hS1q := hS1q.ext hE
                replace hTr_w227 := hTr_w227.trans (Kp.ext hE)
                replace hLl := hLl.ext hE
                replace hTr_w232 := hTr_w232.trans (Kp.ext hE)
                replace hOa := hOa.ext hE
                replace hTr_w254 := hTr_w254.trans (Kp.ext hE)
                replace hOb := hOb.ext hE
                replace hAz295 := At.ext hAz295 hE
                refine oblK_n rfl ?_
                refine opk_norm [(97, .slice as1q s1.length cs1q)] ⟨rfl, trivial⟩ (fun ρq => ?_)
                refine o_strOf (xs := s1) rfl Tryd.underlying24 Tryd.underlying5 Tryd.underlying9 hS1q ?_
                exact ⟨Kp.refl _ _, rfl⟩
              · refine oblK_post rfl rfl (fun w307k vs lo hi hE hkn hap => ?_)
                have hEs := hE.size
                replace hK := hK.trans (Kp.ext hE)
                replace hB21 := hB21.ext hE
                replace hBsp := hBsp.ext hE
                replace hBsq := hBsq.ext hE
                replace hB240 := hB240.ext hE
                replace hB262 := hB262.ext hE
                replace hT := hT.ext hE
                replace hLs := hLs.ext hE
                replace hG := fun r hr => (hG r hr).ext hE
                replace hTr_w13 := hTr_w13.trans (Kp.ext hE)
                replace hS0 := hS0.ext hE
                replace hS1 := hS1.ext hE
                replace hRx := hRx.ext hE
                replace hS0p := hS0p.ext hE
                replace hS1p := hS1p.ext hE
                replace hTr_w193 := hTr_w193.trans (Kp.ext hE)
                replace hP := hP.ext hE
                replace hTr_w219 := hTr_w219.trans (Kp.ext hE)
                replace hS0q := hS0q.ext hE
                replace hS1q := hS1q.ext hE
                replace hTr_w227 := hTr_w227.trans (Kp.ext hE)
                replace hLl := hLl.ext hE
                replace hTr_w232 := hTr_w232.trans (Kp.ext hE)
                replace hOa := hOa.ext hE
                replace hTr_w254 := hTr_w254.trans (Kp.ext hE)
                replace hOb := hOb.ext hE
                replace hAz295 := At.ext hAz295 hE
                refine oblK_n rfl ?_
                refine opk_norm [(7, .slice ((some ⟨bsp, 0, none⟩)) 2 2)] ⟨rfl, trivial⟩ (fun ρq => ?_)
                refine o_move (v := .slice ((some ⟨bsp, 0, none⟩)) 2 2) rfl ?_
                exact ⟨Kp.refl _ _, rfl⟩
              · refine oblK_post rfl rfl (fun w307k vs lo hi hE hkn hap => ?_)
                have hEs := hE.size
                replace hK := hK.trans (Kp.ext hE)
                replace hB21 := hB21.ext hE
                replace hBsp := hBsp.ext hE
                replace hBsq := hBsq.ext hE
                replace hB240 := hB240.ext hE
                replace hB262 := hB262.ext hE
                replace hT := hT.ext hE
                replace hLs := hLs.ext hE
                replace hG := fun r hr => (hG r hr).ext hE
                replace hTr_w13 := hTr_w13.trans (Kp.ext hE)
                replace hS0 := hS0.ext hE
                replace hS1 := hS1.ext hE
                replace hRx := hRx.ext hE
                replace hS0p := hS0p.ext hE
                replace hS1p := hS1p.ext hE
                replace hTr_w193 := hTr_w193.trans (Kp.ext hE)
                replace hP := hP.ext hE
                replace hTr_w219 := hTr_w219.trans (Kp.ext hE)
                replace hS0q := hS0q.ext hE
                replace hS1q := hS1q.ext hE
                replace hTr_w227 := hTr_w227.trans (Kp.ext hE)
                replace hLl := hLl.ext hE
                replace hTr_w232 := hTr_w232.trans (Kp.ext hE)
                replace hOa := hOa.ext hE
                replace hTr_w254 := hTr_w254.trans (Kp.ext hE)
                replace hOb := hOb.ext hE
                replace hAz295 := At.ext hAz295 hE
                refine oblK_n rfl ?_
                refine opk_norm [(13, .int .i64 (0))] ⟨rfl, trivial⟩ (fun ρq => ?_)
                refine o_move (v := .int .i64 (0)) rfl ?_
                exact ⟨Kp.refl _ _, rfl⟩
              · refine oblK_post rfl rfl (fun w307k vs lo hi hE hkn hap => ?_)
                have hEs := hE.size
                replace hK := hK.trans (Kp.ext hE)
                replace hB21 := hB21.ext hE
                replace hBsp := hBsp.ext hE
                replace hBsq := hBsq.ext hE
                replace hB240 := hB240.ext hE
                replace hB262 := hB262.ext hE
                replace hT := hT.ext hE
                replace hLs := hLs.ext hE
                replace hG := fun r hr => (hG r hr).ext hE
                replace hTr_w13 := hTr_w13.trans (Kp.ext hE)
                replace hS0 := hS0.ext hE
                replace hS1 := hS1.ext hE
                replace hRx := hRx.ext hE
                replace hS0p := hS0p.ext hE
                replace hS1p := hS1p.ext hE
                replace hTr_w193 := hTr_w193.trans (Kp.ext hE)
                replace hP := hP.ext hE
                replace hTr_w219 := hTr_w219.trans (Kp.ext hE)
                replace hS0q := hS0q.ext hE
                replace hS1q := hS1q.ext hE
                replace hTr_w227 := hTr_w227.trans (Kp.ext hE)
                replace hLl := hLl.ext hE
                replace hTr_w232 := hTr_w232.trans (Kp.ext hE)
                replace hOa := hOa.ext hE
                replace hTr_w254 := hTr_w254.trans (Kp.ext hE)
                replace hOb := hOb.ext hE
                replace hAz295 := At.ext hAz295 hE
                refine oblK_n rfl ?_
                refine opk_norm [(100, .int .i64 (0))] ⟨rfl, trivial⟩ (fun ρq => ?_)
                refine o_sub64 (a := 1) (b := 0) rfl rfl (by omega) (by omega) ?_
                exact ⟨Kp.refl _ _, rfl⟩
              · refine oblK_post rfl rfl (fun w307k vs lo hi hE hkn hap => ?_)
                have hEs := hE.size
                replace hK := hK.trans (Kp.ext hE)
                replace hB21 := hB21.ext hE
                replace hBsp := hBsp.ext hE
                replace hBsq := hBsq.ext hE
                replace hB240 := hB240.ext hE
                replace hB262 := hB262.ext hE
                replace hT := hT.ext hE
                replace hLs := hLs.ext hE
                replace hG := fun r hr => (hG r hr).ext hE
                replace hTr_w13 := hTr_w13.trans (Kp.ext hE)
                replace hS0 := hS0.ext hE
                replace hS1 := hS1.ext hE
                replace hRx := hRx.ext hE
                replace hS0p := hS0p.ext hE
                replace hS1p := hS1p.ext hE
                replace hTr_w193 := hTr_w193.trans (Kp.ext hE)
                replace hP := hP.ext hE
                replace hTr_w219 := hTr_w219.trans (Kp.ext hE)
                replace hS0q := hS0q.ext hE
                replace hS1q := hS1q.ext hE
                replace hTr_w227 := hTr_w227.trans (Kp.ext hE)
                replace hLl := hLl.ext hE
                replace hTr_w232 := hTr_w232.trans (Kp.ext hE)
                replace hOa := hOa.ext hE
                replace hTr_w254 := hTr_w254.trans (Kp.ext hE)
                replace hOb := hOb.ext hE
                replace hAz295 := At.ext hAz295 hE
                refine oblK_n rfl ?_
                refine opk_norm [(99, .slice ((some ⟨bsp, 0, none⟩)) 2 2), (101, .int .i64 (1))] ⟨rfl, rfl, trivial⟩ (fun ρq => ?_)
                refine o_idxAt 1 rfl rfl Tryd.underlying33 Tryd.sizeOf24 rfl rfl (by decide) ?_
                exact ⟨Kp.refl _ _, rfl⟩
              · refine oblK_post rfl rfl (fun w307k vs lo hi hE hkn hap => ?_)
                have hEs := hE.size
                replace hK := hK.trans (Kp.ext hE)
                replace hB21 := hB21.ext hE
                replace hBsp := hBsp.ext hE
                replace hBsq := hBsq.ext hE
                replace hB240 := hB240.ext hE
                replace hB262 := hB262.ext hE
                replace hT := hT.ext hE
                replace hLs := hLs.ext hE
                replace hG := fun r hr => (hG r hr).ext hE
                replace hTr_w13 := hTr_w13.trans (Kp.ext hE)
                replace hS0 := hS0.ext hE
                replace hS1 := hS1.ext hE
                replace hRx := hRx.ext hE
                replace hS0p := hS0p.ext hE
                replace hS1p := hS1p.ext hE
                replace hTr_w193 := hTr_w193.trans (Kp.ext hE)
                replace hP := hP.ext hE
                replace hTr_w219 := hTr_w219.trans (Kp.ext hE)
                replace hS0q := hS0q.ext hE
                replace hS1q := hS1q.ext hE
                replace hTr_w227 := hTr_w227.trans (Kp.ext hE)
                replace hLl := hLl.ext hE
                replace hTr_w232 := hTr_w232.trans (Kp.ext hE)
                replace hOa := hOa.ext hE
                replace hTr_w254 := hTr_w254.trans (Kp.ext hE)
                replace hOb := hOb.ext hE
                replace hAz295 := At.ext hAz295 hE
                refine oblK_n rfl ?_
                refine opk_norm [(102, .pointer (some ⟨bsp, 1, none⟩))] ⟨rfl, trivial⟩ (fun ρq => ?_)
                refine o_loadB (v := .slice as1p s1.length cs1p) rfl hBsp tyS24 rfl ?_
                exact ⟨Kp.refl _ _, rfl⟩
              · refine oblK_post rfl rfl (fun w307k vs lo hi hE hkn hap => ?_)
                have hEs := hE.size
                replace hK := hK.trans (Kp.ext hE)
                replace hB21 := hB21.ext hE
                replace hBsp := hBsp.ext hE
                replace hBsq := hBsq.ext hE
                replace hB240 := hB240.ext hE
                replace hB262 := hB262.ext hE
                replace hT := hT.ext hE
                replace hLs := hLs.ext hE
                replace hG := fun r hr => (hG r hr).ext hE
                replace hTr_w13 := hTr_w13.trans (Kp.ext hE)
                replace hS0 := hS0.ext hE
                replace hS1 := hS1.ext hE
                replace hRx := hRx.ext hE
                replace hS0p := hS0p.ext hE
                replace hS1p := hS1p.ext hE
                replace hTr_w193 := hTr_w193.trans (Kp.ext hE)
                replace hP := hP.ext hE
                replace hTr_w219 := hTr_w219.trans (Kp.ext hE)
                replace hS0q := hS0q.ext hE
                replace hS1q := hS1q.ext hE
                replace hTr_w227 := hTr_w227.trans (Kp.ext hE)
                replace hLl := hLl.ext hE
                replace hTr_w232 := hTr_w232.trans (Kp.ext hE)
                replace hOa := hOa.ext hE
                replace hTr_w254 := hTr_w254.trans (Kp.ext hE)
                replace hOb := hOb.ext hE
                replace hAz295 := At.ext hAz295 hE
                refine oblK_n rfl ?_
                refine opk_norm [(103, .slice as1p s1.length cs1p)] ⟨rfl, trivial⟩ (fun ρq => ?_)
                refine o_strOf (xs := s1) rfl Tryd.underlying24 Tryd.underlying5 Tryd.underlying9 hS1p ?_
                exact ⟨Kp.refl _ _, rfl⟩
              · refine oblK_post rfl rfl (fun w307k vs lo hi hE hkn hap => ?_)
                have hEs := hE.size
                replace hK := hK.trans (Kp.ext hE)
                replace hB21 := hB21.ext hE
                replace hBsp := hBsp.ext hE
                replace hBsq := hBsq.ext hE
                replace hB240 := hB240.ext hE
                replace hB262 := hB262.ext hE
                replace hT := hT.ext hE
                replace hLs := hLs.ext hE
                replace hG := fun r hr => (hG r hr).ext hE
                replace hTr_w13 := hTr_w13.trans (Kp.ext hE)
                replace hS0 := hS0.ext hE
                replace hS1 := hS1.ext hE
                replace hRx := hRx.ext hE
                replace hS0p := hS0p.ext hE
                replace hS1p := hS1p.ext hE
                replace hTr_w193 := hTr_w193.trans (Kp.ext hE)
                replace hP := hP.ext hE
                replace hTr_w219 := hTr_w219.trans (Kp.ext hE)
                replace hS0q := hS0q.ext hE
                replace hS1q := hS1q.ext hE
                replace hTr_w227 := hTr_w227.trans (Kp.ext hE)
                replace hLl := hLl.ext hE
                replace hTr_w232 := hTr_w232.trans (Kp.ext hE)
                replace hOa := hOa.ext hE
                replace hTr_w254 := hTr_w254.trans (Kp.ext hE)
                replace hOb := hOb.ext hE
                replace hAz295 := At.ext hAz295 hE
                refine oblK_n rfl ?_
                refine opk_norm [(98, .string (strOf s1)), (104, .string (strOf s1))] ⟨rfl, rfl, trivial⟩ (fun ρq => ?_)
                refine o_neqSt (a := strOf s1) rfl rfl rfl ?_
                exact ⟨Kp.refl _ _, rfl⟩
              · refine oblK_post rfl rfl (fun w307k vs lo hi hE hkn hap => ?_)
                have hEs := hE.size
                replace hK := hK.trans (Kp.ext hE)
                replace hB21 := hB21.ext hE
                replace hBsp := hBsp.ext hE
                replace hBsq := hBsq.ext hE
                replace hB240 := hB240.ext hE
                replace hB262 := hB262.ext hE
                replace hT := hT.ext hE
                replace hLs := hLs.ext hE
                replace hG := fun r hr => (hG r hr).ext hE
                replace hTr_w13 := hTr_w13.trans (Kp.ext hE)
                replace hS0 := hS0.ext hE
                replace hS1 := hS1.ext hE
                replace hRx := hRx.ext hE
                replace hS0p := hS0p.ext hE
                replace hS1p := hS1p.ext hE
                replace hTr_w193 := hTr_w193.trans (Kp.ext hE)
                replace hP := hP.ext hE
                replace hTr_w219 := hTr_w219.trans (Kp.ext hE)
                replace hS0q := hS0q.ext hE
                replace hS1q := hS1q.ext hE
                replace hTr_w227 := hTr_w227.trans (Kp.ext hE)
                replace hLl := hLl.ext hE
                replace hTr_w232 := hTr_w232.trans (Kp.ext hE)
                replace hOa := hOa.ext hE
                replace hTr_w254 := hTr_w254.trans (Kp.ext hE)
                replace hOb := hOb.ext hE
                replace hAz295 := At.ext hAz295 hE
                refine oblK_n rfl ?_
                refine opk_norm [(105, .bool (false))] ⟨rfl, trivial⟩ (fun ρq => ?_)
                refine o_move (v := .bool (false)) rfl ?_
                exact ⟨Kp.refl _ _, rfl⟩
              · refine oblK_post rfl rfl (fun w307k vs lo hi hE hkn hap => ?_)
                have hEs := hE.size
                replace hK := hK.trans (Kp.ext hE)
                replace hB21 := hB21.ext hE
                replace hBsp := hBsp.ext hE
                replace hBsq := hBsq.ext hE
                replace hB240 := hB240.ext hE
                replace hB262 := hB262.ext hE
                replace hT := hT.ext hE
                replace hLs := hLs.ext hE
                replace hG := fun r hr => (hG r hr).ext hE
                replace hTr_w13 := hTr_w13.trans (Kp.ext hE)
                replace hS0 := hS0.ext hE
                replace hS1 := hS1.ext hE
                replace hRx := hRx.ext hE
                replace hS0p := hS0p.ext hE
                replace hS1p := hS1p.ext hE
                replace hTr_w193 := hTr_w193.trans (Kp.ext hE)
                replace hP := hP.ext hE
                replace hTr_w219 := hTr_w219.trans (Kp.ext hE)
                replace hS0q := hS0q.ext hE
                replace hS1q := hS1q.ext hE
                replace hTr_w227 := hTr_w227.trans (Kp.ext hE)
                replace hLl := hLl.ext hE
                replace hTr_w232 := hTr_w232.trans (Kp.ext hE)
                replace hOa := hOa.ext hE
                replace hTr_w254 := hTr_w254.trans (Kp.ext hE)
                replace hOb := hOb.ext hE
                replace hAz295 := At.ext hAz295 hE
                refine oblK_n (want_t rfl (rfl)) ?_
                refine opk_norm [(8, .slice ((some ⟨bsq, 0, none⟩)) 2 2), (106, .bool (false))] ⟨rfl, rfl, trivial⟩ (fun ρq => ?_)
                refine o_move (v := .slice ((some ⟨bsq, 0, none⟩)) 2 2) rfl ?_
                exact ⟨Kp.refl _ _, rfl⟩
              · refine oblK_post rfl rfl (fun w307k vs lo hi hE hkn hap => ?_)
                have hEs := hE.size
                replace hK := hK.trans (Kp.ext hE)
                replace hB21 := hB21.ext hE
                replace hBsp := hBsp.ext hE
                replace hBsq := hBsq.ext hE
                replace hB240 := hB240.ext hE
                replace hB262 := hB262.ext hE
                replace hT := hT.ext hE
                replace hLs := hLs.ext hE
                replace hG := fun r hr => (hG r hr).ext hE
                replace hTr_w13 := hTr_w13.trans (Kp.ext hE)
                replace hS0 := hS0.ext hE
                replace hS1 := hS1.ext hE
                replace hRx := hRx.ext hE
                replace hS0p := hS0p.ext hE
                replace hS1p := hS1p.ext hE
                replace hTr_w193 := hTr_w193.trans (Kp.ext hE)
                replace hP := hP.ext hE
                replace hTr_w219 := hTr_w219.trans (Kp.ext hE)
                replace hS0q := hS0q.ext hE
                replace hS1q := hS1q.ext hE
                replace hTr_w227 := hTr_w227.trans (Kp.ext hE)
                replace hLl := hLl.ext hE
                replace hTr_w232 := hTr_w232.trans (Kp.ext hE)
                replace hOa := hOa.ext hE
                replace hTr_w254 := hTr_w254.trans (Kp.ext hE)
                replace hOb := hOb.ext hE
                replace hAz295 := At.ext hAz295 hE
                refine oblK_n (want_t rfl (rfl)) ?_
                refine opk_norm [(13, .int .i64 (0)), (106, .bool (false))] ⟨rfl, rfl, trivial⟩ (fun ρq => ?_)
                refine o_move (v := .int .i64 (0)) rfl ?_
                exact ⟨Kp.refl _ _, rfl⟩
              · refine oblK_post rfl rfl (fun w307k vs lo hi hE hkn hap => ?_)
                have hEs := hE.size
                replace hK := hK.trans (Kp.ext hE)
                replace hB21 := hB21.ext hE
                replace hBsp := hBsp.ext hE
                replace hBsq := hBsq.ext hE
                replace hB240 := hB240.ext hE
                replace hB262 := hB262.ext hE
                replace hT := hT.ext hE
                replace hLs := hLs.ext hE
                replace hG := fun r hr => (hG r hr).ext hE
                replace hTr_w13 := hTr_w13.trans (Kp.ext hE)
                replace hS0 := hS0.ext hE
                replace hS1 := hS1.ext hE
                replace hRx := hRx.ext hE
                replace hS0p := hS0p.ext hE
                replace hS1p := hS1p.ext hE
                replace hTr_w193 := hTr_w193.trans (Kp.ext hE)
                replace hP := hP.ext hE
                replace hTr_w219 := hTr_w219.trans (Kp.ext hE)
                replace hS0q := hS0q.ext hE
                replace hS1q := hS1q.ext hE
                replace hTr_w227 := hTr_w227.trans (Kp.ext hE)
                replace hLl := hLl.ext hE
                replace hTr_w232 := hTr_w232.trans (Kp.ext hE)
                replace hOa := hOa.ext hE
                replace hTr_w254 := hTr_w254.trans (Kp.ext hE)
                replace hOb := hOb.ext hE
                replace hAz295 := At.ext hAz295 hE
                refine oblK_n (want_t rfl (rfl)) ?_
                refine opk_norm [(106, .bool (false)), (107, .slice ((some ⟨bsq, 0, none⟩)) 2 2), (108, .int .i64 (0))] ⟨rfl, rfl, rfl, trivial⟩ (fun ρq => ?_)
                refine o_idxAt 0 rfl rfl Tryd.underlying33 Tryd.sizeOf24 rfl rfl (by decide) ?_
                exact ⟨Kp.refl _ _, rfl⟩
              · refine oblK_post rfl rfl (fun w307k vs lo hi hE hkn hap => ?_)
                have hEs := hE.size
                replace hK := hK.trans (Kp.ext hE)
                replace hB21 := hB21.ext hE
                replace hBsp := hBsp.ext hE
                replace hBsq := hBsq.ext hE
                replace hB240 := hB240.ext hE
                replace hB262 := hB262.ext hE
                replace hT := hT.ext hE
                replace hLs := hLs.ext hE
                replace hG := fun r hr => (hG r hr).ext hE
                replace hTr_w13 := hTr_w13.trans (Kp.ext hE)
                replace hS0 := hS0.ext hE
                replace hS1 := hS1.ext hE
                replace hRx := hRx.ext hE
                replace hS0p := hS0p.ext hE
                replace hS1p := hS1p.ext hE
                replace hTr_w193 := hTr_w193.trans (Kp.ext hE)
                replace hP := hP.ext hE
                replace hTr_w219 := hTr_w219.trans (Kp.ext hE)
                replace hS0q := hS0q.ext hE
                replace hS1q := hS1q.ext hE
                replace hTr_w227 := hTr_w227.trans (Kp.ext hE)
                replace hLl := hLl.ext hE
                replace hTr_w232 := hTr_w232.trans (Kp.ext hE)
                replace hOa := hOa.ext hE
                replace hTr_w254 := hTr_w254.trans (Kp.ext hE)
                replace hOb := hOb.ext hE
                replace hAz295 := At.ext hAz295 hE
                refine oblK_n (want_t rfl (rfl)) ?_
                refine opk_norm [(106, .bool (false)), (109, .pointer (some ⟨bsq, 0, none⟩))] ⟨rfl, rfl, trivial⟩ (fun ρq => ?_)
                refine o_loadB (v := .slice as0q X1.length cs0q) rfl hBsq tyS24 rfl ?_
                exact ⟨Kp.refl _ _, rfl⟩
              · refine oblK_post rfl rfl (fun w307k vs lo hi hE hkn hap => ?_)
                have hEs := hE.size
                replace hK := hK.trans (Kp.ext hE)
                replace hB21 := hB21.ext hE
                replace hBsp := hBsp.ext hE
                replace hBsq := hBsq.ext hE
                replace hB240 := hB240.ext hE
                replace hB262 := hB262.ext hE
                replace hT := hT.ext hE
                replace hLs := hLs.ext hE
                replace hG := fun r hr => (hG r hr).ext hE
                replace hTr_w13 := hTr_w13.trans (Kp.ext hE)
                replace hS0 := hS0.ext hE
                replace hS1 := hS1.ext hE
                replace hRx := hRx.ext hE
                replace hS0p := hS0p.ext hE
                replace hS1p := hS1p.ext hE
                replace hTr_w193 := hTr_w193.trans (Kp.ext hE)
                replace hP := hP.ext hE
                replace hTr_w219 := hTr_w219.trans (Kp.ext hE)
                replace hS0q := hS0q.ext hE
                replace hS1q := hS1q.ext hE
                replace hTr_w227 := hTr_w227.trans (Kp.ext hE)
                replace hLl := hLl.ext hE
                replace hTr_w232 := hTr_w232.trans (Kp.ext hE)
                replace hOa := hOa.ext hE
                replace hTr_w254 := hTr_w254.trans (Kp.ext hE)
                replace hOb := hOb.ext hE
                replace hAz295 := At.ext hAz295 hE
                refine oblK_n (want_t rfl (rfl)) ?_
                refine opk_norm [(106, .bool (false)), (110, .slice as0q X1.length cs0q)] ⟨rfl, rfl, trivial⟩ (fun ρq => ?_)
                refine o_strOf (xs := X1) rfl Tryd.underlying24 Tryd.underlying5 Tryd.underlying9 hS0q ?_
                exact ⟨Kp.refl _ _, rfl⟩
              · refine oblK_post rfl rfl (fun w307k vs lo hi hE hkn hap => ?_)
                have hEs := hE.size
                replace hK := hK.trans (Kp.ext hE)
                replace hB21 := hB21.ext hE
                replace hBsp := hBsp.ext hE
                replace hBsq := hBsq.ext hE
                replace hB240 := hB240.ext hE
                replace hB262 := hB262.ext hE
                replace hT := hT.ext hE
                replace hLs := hLs.ext hE
                replace hG := fun r hr => (hG r hr).ext hE
                replace hTr_w13 := hTr_w13.trans (Kp.ext hE)
                replace hS0 := hS0.ext hE
                replace hS1 := hS1.ext hE
                replace hRx := hRx.ext hE
                replace hS0p := hS0p.ext hE
                replace hS1p := hS1p.ext hE
                replace hTr_w193 := hTr_w193.trans (Kp.ext hE)
                replace hP := hP.ext hE
                replace hTr_w219 := hTr_w219.trans (Kp.ext hE)
                replace hS0q := hS0q.ext hE
                replace hS1q := hS1q.ext hE
                replace hTr_w227 := hTr_w227.trans (Kp.ext hE)
                replace hLl := hLl.ext hE
                replace hTr_w232 := hTr_w232.trans (Kp.ext hE)
                replace hOa := hOa.ext hE
                replace hTr_w254 := hTr_w254.trans (Kp.ext hE)
                replace hOb := hOb.ext hE
                replace hAz295 := At.ext hAz295 hE
                refine oblK_n (want_t rfl (rfl)) ?_
                refine opk_norm [(0, .slice al ls.length cl), (106, .bool (false))] ⟨rfl, rfl, trivial⟩ (fun ρq => ?_)
                refine o_move (v := .slice al ls.length cl) rfl ?_
                exact ⟨Kp.refl _ _, rfl⟩
              · refine oblK_post rfl rfl (fun w307k vs lo hi hE hkn hap => ?_)
                have hEs := hE.size
                replace hK := hK.trans (Kp.ext hE)
                replace hB21 := hB21.ext hE
                replace hBsp := hBsp.ext hE
                replace hBsq := hBsq.ext hE
                replace hB240 := hB240.ext hE
                replace hB262 := hB262.ext hE
                replace hT := hT.ext hE
                replace hLs := hLs.ext hE
                replace hG := fun r hr => (hG r hr).ext hE
                replace hTr_w13 := hTr_w13.trans (Kp.ext hE)
                replace hS0 := hS0.ext hE
                replace hS1 := hS1.ext hE
                replace hRx := hRx.ext hE
                replace hS0p := hS0p.ext hE
                replace hS1p := hS1p.ext hE
                replace hTr_w193 := hTr_w193.trans (Kp.ext hE)
                replace hP := hP.ext hE
                replace hTr_w219 := hTr_w219.trans (Kp.ext hE)
                replace hS0q := hS0q.ext hE
                replace hS1q := hS1q.ext hE
                replace hTr_w227 := hTr_w227.trans (Kp.ext hE)
                replace hLl := hLl.ext hE
                replace hTr_w232 := hTr_w232.trans (Kp.ext hE)
                replace hOa := hOa.ext hE
                replace hTr_w254 := hTr_w254.trans (Kp.ext hE)
                replace hOb := hOb.ext hE
                replace hAz295 := At.ext hAz295 hE
                refine oblK_n (want_t rfl (rfl)) ?_
                refine opk_norm [(5, .int .i64 ((i : Int))), (106, .bool (false))] ⟨rfl, rfl, trivial⟩ (fun ρq => ?_)
                refine o_move (v := .int .i64 ((i : Int))) rfl ?_
                exact ⟨Kp.refl _ _, rfl⟩
              · refine oblK_post rfl rfl (fun w307k vs lo hi hE hkn hap => ?_)
                have hEs := hE.size
                replace hK := hK.trans (Kp.ext hE)
                replace hB21 := hB21.ext hE
                replace hBsp := hBsp.ext hE
                replace hBsq := hBsq.ext hE
                replace hB240 := hB240.ext hE
                replace hB262 := hB262.ext hE
                replace hT := hT.ext hE
                replace hLs := hLs.ext hE
                replace hG := fun r hr => (hG r hr).ext hE
                replace hTr_w13 := hTr_w13.trans (Kp.ext hE)
                replace hS0 := hS0.ext hE
                replace hS1 := hS1.ext hE
                replace hRx := hRx.ext hE
                replace hS0p := hS0p.ext hE
                replace hS1p := hS1p.ext hE
                replace hTr_w193 := hTr_w193.trans (Kp.ext hE)
                replace hP := hP.ext hE
                replace hTr_w219 := hTr_w219.trans (Kp.ext hE)
                replace hS0q := hS0q.ext hE
                replace hS1q := hS1q.ext hE
                replace hTr_w227 := hTr_w227.trans (Kp.ext hE)
                replace hLl := hLl.ext hE
                replace hTr_w232 := hTr_w232.trans (Kp.ext hE)
                replace hOa := hOa.ext hE
                replace hTr_w254 := hTr_w254.trans (Kp.ext hE)
                replace hOb := hOb.ext hE
                replace hAz295 := At.ext hAz295 hE
                refine oblK_n (want_t rfl (rfl)) ?_
                refine opk_norm [(106, .bool (false)), (112, .slice al ls.length cl), (113, .int .i64 ((i : Int)))] ⟨rfl, rfl, rfl, trivial⟩ (fun ρq => ?_)
                refine o_idxAt i rfl rfl Tryd.underlying22 Tryd.sizeOf32 haoz295 (by omega) (by omega) ?_
                exact ⟨Kp.refl _ _, rfl⟩
              · refine oblK_post rfl rfl (fun w307k vs lo hi hE hkn hap => ?_)
                have hEs := hE.size
                replace hK := hK.trans (Kp.ext hE)
                replace hB21 := hB21.ext hE
                replace hBsp := hBsp.ext hE
                replace hBsq := hBsq.ext hE
                replace hB240 := hB240.ext hE
                replace hB262 := hB262.ext hE
                replace hT := hT.ext hE
                replace hLs := hLs.ext hE
                replace hG := fun r hr => (hG r hr).ext hE
                replace hTr_w13 := hTr_w13.trans (Kp.ext hE)
                replace hS0 := hS0.ext hE
                replace hS1 := hS1.ext hE
                replace hRx := hRx.ext hE
                replace hS0p := hS0p.ext hE
                replace hS1p := hS1p.ext hE
                replace hTr_w193 := hTr_w193.trans (Kp.ext hE)
                replace hP := hP.ext hE
                replace hTr_w219 := hTr_w219.trans (Kp.ext hE)
                replace hS0q := hS0q.ext hE
                replace hS1q := hS1q.ext hE
                replace hTr_w227 := hTr_w227.trans (Kp.ext hE)
                replace hLl := hLl.ext hE
                replace hTr_w232 := hTr_w232.trans (Kp.ext hE)
                replace hOa := hOa.ext hE
                replace hTr_w254 := hTr_w254.trans (Kp.ext hE)
                replace hOb := hOb.ext hE
                replace hAz295 := At.ext hAz295 hE
                refine oblK_n (want_t rfl (rfl)) ?_
                refine opk_norm [(106, .bool (false)), (114, .pointer (some ⟨bz295, oz295 + i * 4, none⟩))] ⟨rfl, rfl, trivial⟩ (fun ρq => ?_)
                refine o_loadA (cs := [.int .i64 (x9.b), .int .i64 (x9.m), .int .i64 (x9.c), .slice x9.s.ao x9.s.xs.length x9.s.c]) rfl tyA32 rfl hAz295 ?_
                exact ⟨Kp.refl _ _, rfl⟩
              · refine oblK_post rfl rfl (fun w307k vs lo hi hE hkn hap => ?_)
                have hEs := hE.size
                replace hK := hK.trans (Kp.ext hE)
                replace hB21 := hB21.ext hE
                replace hBsp := hBsp.ext hE
                replace hBsq := hBsq.ext hE
                replace hB240 := hB240.ext hE
                replace hB262 := hB262.ext hE
                replace hT := hT.ext hE
                replace hLs := hLs.ext hE
                replace hG := fun r hr => (hG r hr).ext hE
                replace hTr_w13 := hTr_w13.trans (Kp.ext hE)
                replace hS0 := hS0.ext hE
                replace hS1 := hS1.ext hE
                replace hRx := hRx.ext hE
                replace hS0p := hS0p.ext hE
                replace hS1p := hS1p.ext hE
                replace hTr_w193 := hTr_w193.trans (Kp.ext hE)
                replace hP := hP.ext hE
                replace hTr_w219 := hTr_w219.trans (Kp.ext hE)
                replace hS0q := hS0q.ext hE
                replace hS1q := hS1q.ext hE
                replace hTr_w227 := hTr_w227.trans (Kp.ext hE)
                replace hLl := hLl.ext hE
                replace hTr_w232 := hTr_w232.trans (Kp.ext hE)
                replace hOa := hOa.ext hE
                replace hTr_w254 := hTr_w254.trans (Kp.ext hE)
                replace hOb := hOb.ext hE
                replace hAz295 := At.ext hAz295 hE
                refine oblK_n (want_t rfl (rfl)) ?_
                refine opk_norm [(10, .int .u64 ((i : Int) + 1)), (106, .bool (false))] ⟨rfl, rfl, trivial⟩ (fun ρq => ?_)
                refine o_move (v := .int .u64 ((i : Int) + 1)) rfl ?_
                exact ⟨Kp.refl _ _, rfl⟩
              · refine oblK_post rfl rfl (fun w307k vs lo hi hE hkn hap => ?_)
                have hEs := hE.size
                replace hK := hK.trans (Kp.ext hE)
                replace hB21 := hB21.ext hE
                replace hBsp := hBsp.ext hE
                replace hBsq := hBsq.ext hE
                replace hB240 := hB240.ext hE
                replace hB262 := hB262.ext hE
                replace hT := hT.ext hE
                replace hLs := hLs.ext hE
                replace hG := fun r hr => (hG r hr).ext hE
                replace hTr_w13 := hTr_w13.trans (Kp.ext hE)
                replace hS0 := hS0.ext hE
                replace hS1 := hS1.ext hE
                replace hRx := hRx.ext hE
                replace hS0p := hS0p.ext hE
                replace hS1p := hS1p.ext hE
                replace hTr_w193 := hTr_w193.trans (Kp.ext hE)
                replace hP := hP.ext hE
                replace hTr_w219 := hTr_w219.trans (Kp.ext hE)
                replace hS0q := hS0q.ext hE
                replace hS1q := hS1q.ext hE
                replace hTr_w227 := hTr_w227.trans (Kp.ext hE)
                replace hLl := hLl.ext hE
                replace hTr_w232 := hTr_w232.trans (Kp.ext hE)
                replace hOa := hOa.ext hE
                replace hTr_w254 := hTr_w254.trans (Kp.ext hE)
                replace hOb := hOb.ext hE
                replace hAz295 := At.ext hAz295 hE
                refine oblK_n (want_t rfl (rfl)) ?_
                refine opk_norm [(106, .bool (false)), (115, .agg #[.int .i64 (x9.b), .int .i64 (x9.m), .int .i64 (x9.c), .slice x9.s.ao x9.s.xs.length x9.s.c]), (116, .int .u64 ((i : Int) + 1))] ⟨rfl, rfl, rfl, trivial⟩ (fun ρq => ?_)
                refine o_call (jput_to x9.b x9.m x9.c _ _ x9.s.xs ((i : Int) + 1) X1 _ _ hX1 rfl (by omega) hpp hpb hpm (by omega) hT hRx) Tryd.call15 (fun v320 w321 hk322 hv323 => ?_)
                have hl_b16_w321 := hB21.lt
                have hl_bsp_w321 := hBsp.lt
                have hl_bsq_w321 := hBsq.lt
                have hl_b235_w321 := hB240.lt
                have hl_b257_w321 := hB262.lt
                have hs_w321 := hK.size
                have hsk_w321 := hk322.size
                obtain ⟨aj, cj, rfl, hJ⟩ := hv323
                replace hK := hK.trans (Kp.ext hk322)
                replace hB21 := hB21.ext hk322
                replace hBsp := hBsp.ext hk322
                replace hBsq := hBsq.ext hk322
                replace hB240 := hB240.ext hk322
                replace hB262 := hB262.ext hk322
                replace hT := hT.ext hk322
                replace hLs := hLs.ext hk322
                replace hG := fun r hr => (hG r hr).ext hk322
                replace hTr_w13 := hTr_w13.trans (Kp.ext hk322)
                replace hS0 := hS0.ext hk322
                replace hS1 := hS1.ext hk322
                replace hRx := hRx.ext hk322
                replace hS0p := hS0p.ext hk322
                replace hS1p := hS1p.ext hk322
                replace hTr_w193 := hTr_w193.trans (Kp.ext hk322)
                replace hP := hP.ext hk322
                replace hTr_w219 := hTr_w219.trans (Kp.ext hk322)
                replace hS0q := hS0q.ext hk322
                replace hS1q := hS1q.ext hk322
                replace hTr_w227 := hTr_w227.trans (Kp.ext hk322)
                replace hLl := hLl.ext hk322
                replace hTr_w232 := hTr_w232.trans (Kp.ext hk322)
                replace hOa := hOa.ext hk322
                replace hTr_w254 := hTr_w254.trans (Kp.ext hk322)
                replace hOb := hOb.ext hk322
                replace hAz295 := At.ext hAz295 hk322
                exact ⟨hk322, rfl, hEs, hJ.mono (fun b hb h => ⟨h, hb⟩)⟩
              · refine oblK_post rfl rfl (fun w307k vs lo hi hE hkn hap => ?_)
                have hEs := hE.size
                replace hK := hK.trans (Kp.ext hE)
                replace hB21 := hB21.ext hE
                replace hBsp := hBsp.ext hE
                replace hBsq := hBsq.ext hE
                replace hB240 := hB240.ext hE
                replace hB262 := hB262.ext hE
                replace hT := hT.ext hE
                replace hLs := hLs.ext hE
                replace hG := fun r hr => (hG r hr).ext hE
                replace hTr_w13 := hTr_w13.trans (Kp.ext hE)
                replace hS0 := hS0.ext hE
                replace hS1 := hS1.ext hE
                replace hRx := hRx.ext hE
                replace hS0p := hS0p.ext hE
                replace hS1p := hS1p.ext hE
                replace hTr_w193 := hTr_w193.trans (Kp.ext hE)
                replace hP := hP.ext hE
                replace hTr_w219 := hTr_w219.trans (Kp.ext hE)
                replace hS0q := hS0q.ext hE
                replace hS1q := hS1q.ext hE
                replace hTr_w227 := hTr_w227.trans (Kp.ext hE)
                replace hLl := hLl.ext hE
                replace hTr_w232 := hTr_w232.trans (Kp.ext hE)
                replace hOa := hOa.ext hE
                replace hTr_w254 := hTr_w254.trans (Kp.ext hE)
                replace hOb := hOb.ext hE
                replace hAz295 := At.ext hAz295 hE
                obtain ⟨-, -, -, -, -, -, -, -, -, -, -, -, -, -, -, -, -, -, -, ⟨⟨hv24_t, hlo24_t, hJ_t⟩, hq1_24, hq2_24, hq3_24⟩, -⟩ := hkn
                obtain ⟨aj, cj, hv24, hlo24, hJ⟩ : ∃ (aj : Option Addr) (cj : Nat), (vs 24 = .slice aj X1.length cj) ∧ (w290.heap.size ≤ (lo 24)) ∧ (Rd (fun b => (lo 24) ≤ b ∧ b < (hi 24)) w307k 1 (.slice aj X1.length cj) ((X1).map encB)) := ⟨_, _, hv24_t, hlo24_t, hJ_t⟩
                clear hJ_t hlo24_t hv24_t
                replace hq1_24 : w290.heap.size ≤ lo 24 := hq1_24
                replace hq2_24 : lo 24 ≤ hi 24 := hq2_24
                replace hq3_24 : hi 24 ≤ w307k.heap.size := hq3_24
                refine oblK_n (want_t rfl (rfl)) ?_
                refine opk_norm [(106, .bool (false)), (117, .slice aj X1.length cj)] ⟨rfl, hv24, trivial⟩ (fun ρq => ?_)
                refine o_strOf (xs := X1) rfl Tryd.underlying24 Tryd.underlying5 Tryd.underlying9 hJ ?_
                exact ⟨Kp.refl _ _, rfl⟩
              have hsE6 := hE311.size
              replace hK := hK.trans (Kp.ext hE311)
              replace hB21 := hB21.ext hE311
              replace hBsp := hBsp.ext hE311
              replace hBsq := hBsq.ext hE311
              replace hB240 := hB240.ext hE311
              replace hB262 := hB262.ext hE311
              replace hT := hT.ext hE311
              replace hLs := hLs.ext hE311
              replace hG := fun r hr => (hG r hr).ext hE311
              replace hTr_w13 := hTr_w13.trans (Kp.ext hE311)
              replace hS0 := hS0.ext hE311
              replace hS1 := hS1.ext hE311
              replace hRx := hRx.ext hE311
              replace hS0p := hS0p.ext hE311
              replace hS1p := hS1p.ext hE311
              replace hTr_w193 := hTr_w193.trans (Kp.ext hE311)
              replace hP := hP.ext hE311
              replace hTr_w219 := hTr_w219.trans (Kp.ext hE311)
              replace hS0q := hS0q.ext hE311
              replace hS1q := hS1q.ext hE311
              replace hTr_w227 := hTr_w227.trans (Kp.ext hE311)
              replace hLl := hLl.ext hE311
              replace hTr_w232 := hTr_w232.trans (Kp.ext hE311)
              replace hOa := hOa.ext hE311
              replace hTr_w254 := hTr_w254.trans (Kp.ext hE311)
              replace hOb := hOb.ext hE311
              replace hAz295 := At.ext hAz295 hE311
              refine rl_norm [(0, .slice al ls.length cl), (4, .pointer (some ⟨b16, 0, none⟩)), (5, .int .i64 ((i : Int))), (106, .bool (false)), (111, .string (strOf X1)), (118, .string (strOf X1))] ⟨rfl, rfl, rfl, rfl, rfl, rfl, trivial⟩ (fun ρr306q => ?_)
              refine rl (o_neqSt (a := strOf X1) rfl rfl rfl ?_) (want_t rfl (rfl))
              refine rl (o_pickF (v := .bool (false)) rfl (rfl) rfl ?_) rfl
              refine rl_nil ?_
              refine cw_condF rfl ?_
              refine cw_skip ?_
              refine k_bn ?_
              refine k_tn ?_
              refine cw_norm [(0, .slice al ls.length cl), (4, .pointer (some ⟨b16, 0, none⟩)), (5, .int .i64 ((i : Int)))] ⟨rfl, rfl, rfl, trivial⟩ (fun ρn324 => ?_)
              refine cw_region rfl ?_
              refine rl (o_move (v := .int .i64 ((i : Int))) rfl ?_) rfl
              refine rl (o_add64 (a := (i : Int)) (b := 1) rfl rfl (by omega) (by omega) ?_) rfl
              refine rl (o_assign (v := .int .i64 ((i : Int) + 1)) rfl ?_) rfl
              refine rl_nil ?_
              refine k_tn ?_
              refine ⟨_, ?_, _, i + 1, aw3, a1, a0, cw3, p1, p0, X1, s1, s0, 0, true, upds_eq _ _ ⟨rfl, rfl, rfl, trivial⟩, rfl, (by omega), (by first | exact .inr ⟨by omega, .inr ⟨by omega, _, hck, hl80, hX1.symm⟩, by simpa using hh0⟩ | exact .inl ⟨by omega, .inr ⟨by omega, _, hck, hl80, hX1.symm⟩, by simpa using hh1⟩), hK, hB21, hT, hLs, hG, hTr_w13, (hP.mono (fun b hb h => by intro e; omega)), (hS1.mono (fun b hb h => h.1))⟩
              omega
      · skip
        refine cw_exit ?_
        refine k_te ?_
        refine k_te ?_
        refine k_bh ?_
        refine k_tn ?_
        refine cw_norm [] trivial (fun ρn325 => ?_)
        refine cw_reg rfl ?_
        refine rl (o_assign (v := .bool (true)) rfl ?_) rfl
        refine rl_nil ?_
        refine cw_ret ?_
        refine ret_intro (v := .bool (true)) (res_ok (vs := [.bool (true)]) rfl ⟨rfl, trivial⟩) hK ?_
        exact rfl
end Go.Proofs.YtcmlklnelipacaaDoor

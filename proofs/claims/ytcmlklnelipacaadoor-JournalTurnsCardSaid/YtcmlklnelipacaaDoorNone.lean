import Derived.Test.YtcmlklnelipacaaDoorAw16
import Derived.Test.YtcmlklnelipacaaDoorTearu
set_option linter.unusedVariables false
set_option linter.unusedSimpArgs false
set_option maxRecDepth 100000
namespace Go.Proofs.YtcmlklnelipacaaDoor
open Go.RowKit Plain

theorem jput_len8 (l : Ledger) (sq : Int) : (jput crcOf l sq).length ≤ 8 * l.l.length + 60 := by
  have e : jput crcOf l sq = sealB crcOf (join (jrows l sq)) := rfl
  rw [e]
  simp only [sealB, List.length_append, leB_length, jrows, join, List.flatMap_cons, List.flatMap_nil, List.length_take, List.length_nil]
  have h1 : (pbytes l.l).length ≤ 8 * l.l.length := by rw [pbytes_len]; omega
  first | omega | (simp only [List.length_append, leB_length]; omega)
theorem permits_ok {b m c : Int} {ps : List Permit} (h : check ⟨b, m, c, ps⟩ = true) : (∀ p ∈ ps, 0 ≤ p.car ∧ p.car < 4294967296 ∧ 0 ≤ p.peak ∧ p.peak < 4294967296) ∧ (0 ≤ b ∧ b < 4294967296) ∧ (0 ≤ m ∧ m < 4294967296) := by
  obtain ⟨hok, hb, hm, hc, hs⟩ := check_parts h
  have h1 := power_iff.1 hb
  have h2 := power_iff.1 hm
  refine ⟨fun p hp => ?_, by dsimp at h1; omega, by dsimp at h2; omega⟩
  have := okPermits_all _ _ hok p hp
  have h3 := known_iff.1 this.1
  have h4 := power_iff.1 this.2
  omega
set_option maxHeartbeats 16000000 in
theorem none_ok {F0 F1 F : Nat → Prop} (a0 a1 : Option Addr) (p0 p1 : Nat) (s0 s1 : List Int) (b m c : Int) (ao : Option Addr) (cp : Nat) (ps : List Permit) (nn : Int) (n0 : Nat) (n1 : Nat) (n2 : Nat) (w : World) (hl_n2 : n2 = ps.length) (hl_n1 : n1 = s1.length) (hl_n0 : n0 = s0.length) (hB0 : isB s0) (hB1 : isB s1) (hnn : 0 ≤ nn ∧ nn ≤ 65535) (hT : Tab w) (hR0 : Rd F0 w 1 (.slice a0 n0 p0) (s0.map encB)) (hR1 : Rd F1 w 1 (.slice a1 n1 p1) (s1.map encB)) (hR : Rd F w 2 (.slice ao n2 cp) (ps.map encP)) :
    Calls Tryd.prog 4 #[.slice a0 n0 p0, .slice a1 n1 p1, .agg #[.int .i64 (b), .int .i64 (m), .int .i64 (c), .slice ao n2 cp], .int .u16 (nn)] w (Ret Non w fun v w' => v = .bool true) := by
  have hK := Kp.refl Non w
  subst hl_n0
  subst hl_n1
  subst hl_n2
  replace hR0 := hR0.old
  replace hR1 := hR1.old
  replace hR := hR.old
  have h00 := hT.1
  refine calls_cw Tryd.func4 rfl (Nat.le_of_ble_eq_true rfl) ?_
  refine cw_seq ?_
  refine cw_region rfl ?_
  refine rl (o_box (v := .agg #[.int .i64 (b), .int .i64 (m), .int .i64 (c), .slice ao ps.length cp]) rfl (fun b1 w2 hb3 hz4 hk5 hB6 => ?_)) rfl
  replace hB6 : Box w2 b1 [.int .i64 (b), .int .i64 (m), .int .i64 (c), .slice ao ps.length cp] 32 := hB6
  have hs_b1 := hK.size
  replace hK := hK.trans (Kp.ext hk5)
  replace hT := hT.ext hk5
  replace hR0 := hR0.ext hk5
  replace hR1 := hR1.ext hk5
  replace hR := hR.ext hk5
  refine rl (o_assign (v := .bool (false)) rfl ?_) rfl
  refine rl_nil ?_
  refine k_tn ?_
  refine cw_norm [(0, .slice a0 s0.length p0), (1, .slice a1 s1.length p1), (3, .int .u16 (nn)), (6, .pointer (some ⟨b1, 0, none⟩))] ⟨rfl, rfl, rfl, rfl, trivial⟩ (fun ρn7 => ?_)
  refine cw_seq ?_
  refine cw_region rfl ?_
  refine rl (o_call (awake16_ok _ hT) Tryd.call6 (fun v8 w9 hk10 hv11 => ?_)) rfl
  have hl_b1_w9 := hB6.lt
  have hs_w9 := hK.size
  have hsk_w9 := hk10.size
  obtain rfl := hv11
  replace hK := hK.trans (Kp.ext hk10)
  replace hB6 := hB6.ext hk10
  replace hT := hT.ext hk10
  replace hR0 := hR0.ext hk10
  replace hR1 := hR1.ext hk10
  replace hR := hR.ext hk10
  refine rl (o_assign (v := .bool (true)) rfl ?_) rfl
  refine rl_nil ?_
  refine k_tn ?_
  refine cw_norm [(0, .slice a0 s0.length p0), (1, .slice a1 s1.length p1), (3, .int .u16 (nn)), (6, .pointer (some ⟨b1, 0, none⟩)), (9, .bool (true))] ⟨rfl, rfl, rfl, rfl, rfl, trivial⟩ (fun ρn12 => ?_)
  refine cw_seq ?_
  refine cw_seq ?_
  refine cw_region rfl ?_
  refine rl (o_move (v := .bool (true)) rfl ?_) rfl
  refine rl (o_not rfl ?_) rfl
  refine rl_nil ?_
  refine k_tn ?_
  refine cw_norm [(0, .slice a0 s0.length p0), (1, .slice a1 s1.length p1), (3, .int .u16 (nn)), (6, .pointer (some ⟨b1, 0, none⟩)), (24, .bool (false))] ⟨rfl, rfl, rfl, rfl, rfl, trivial⟩ (fun ρn13 => ?_)
  refine cw_condF rfl ?_
  refine cw_skip ?_
  refine k_tn ?_
  refine cw_norm [(0, .slice a0 s0.length p0), (1, .slice a1 s1.length p1), (3, .int .u16 (nn)), (6, .pointer (some ⟨b1, 0, none⟩))] ⟨rfl, rfl, rfl, rfl, trivial⟩ (fun ρn14 => ?_)
  refine cw_seq ?_
  refine cw_region rfl ?_
  refine rl (o_loadBA (ds := [.int .i64 (b), .int .i64 (m), .int .i64 (c), .slice ao ps.length cp]) rfl hB6 tyA32 rfl rfl ?_) rfl
  refine rl (o_call (few16_ok (F := Non) b m c ao cp ps _ _ rfl) Tryd.call8 (fun v15 w16 hk17 hv18 => ?_)) rfl
  have hl_b1_w16 := hB6.lt
  have hs_w16 := hK.size
  have hsk_w16 := hk17.size
  obtain rfl := hv18
  replace hK := hK.trans (Kp.ext hk17)
  replace hB6 := hB6.ext hk17
  replace hT := hT.ext hk17
  replace hR0 := hR0.ext hk17
  replace hR1 := hR1.ext hk17
  replace hR := hR.ext hk17
  refine rl (o_assign (v := .bool (decide (((ps.length : Nat) : Int) ≤ 80))) rfl ?_) rfl
  refine rl_nil ?_
  refine k_tn ?_
  refine cw_norm [(0, .slice a0 s0.length p0), (1, .slice a1 s1.length p1), (3, .int .u16 (nn)), (6, .pointer (some ⟨b1, 0, none⟩)), (10, .bool (decide (((ps.length : Nat) : Int) ≤ 80)))] ⟨rfl, rfl, rfl, rfl, rfl, trivial⟩ (fun ρn19 => ?_)
  refine cw_seq ?_
  refine cw_seq ?_
  refine cw_region rfl ?_
  refine rl (o_move (v := .bool (decide (((ps.length : Nat) : Int) ≤ 80))) rfl ?_) rfl
  refine rl (o_notD (q := ((ps.length : Nat) : Int) ≤ 80) rfl ?_) rfl
  refine rl (o_move (v := .bool (decide (¬ (((ps.length : Nat) : Int) ≤ 80)))) rfl ?_) rfl
  by_cases h20 : ¬ (((ps.length : Nat) : Int) ≤ 80)
  · skip
    refine rlo ?_ (want_f rfl (decide_eq_true h20) (by decide))
    refine rlo ?_ (want_f rfl (decide_eq_true h20) (by decide))
    refine rlo ?_ (want_f rfl (decide_eq_true h20) (by decide))
    refine rl (o_pickT (v := .bool (true)) rfl (decide_eq_true h20) rfl ?_) rfl
    refine rl (o_move (v := .bool (true)) rfl ?_) rfl
    refine rlo ?_ (want_f rfl (rfl) (by decide))
    refine rlo ?_ (want_f rfl (rfl) (by decide))
    refine rlo ?_ (want_f rfl (rfl) (by decide))
    refine rl (o_pickT (v := .bool (true)) rfl (rfl) rfl ?_) rfl
    refine rl (o_move (v := .bool (true)) rfl ?_) rfl
    refine rlo ?_ (want_f rfl (rfl) (by decide))
    refine rlo ?_ (want_f rfl (rfl) (by decide))
    refine rlo ?_ (want_f rfl (rfl) (by decide))
    refine rl (o_pickT (v := .bool (true)) rfl (rfl) rfl ?_) rfl
    refine rl_nil ?_
    refine k_tn ?_
    refine cw_norm [(0, .slice a0 s0.length p0), (1, .slice a1 s1.length p1), (3, .int .u16 (nn)), (6, .pointer (some ⟨b1, 0, none⟩)), (43, .bool (true))] ⟨rfl, rfl, rfl, rfl, rfl, trivial⟩ (fun ρn21 => ?_)
    refine cw_condT rfl ?_
    refine cw_reg rfl ?_
    refine rl (o_assign (v := .bool (true)) rfl ?_) rfl
    refine rl_nil ?_
    refine cw_ret ?_
    refine k_tr ?_
    refine ret_intro (v := .bool (true)) (res_ok (vs := [.bool (true)]) rfl ⟨rfl, trivial⟩) hK ?_
    exact rfl
  · skip
    refine rl (o_loadBA (ds := [.int .i64 (b), .int .i64 (m), .int .i64 (c), .slice ao ps.length cp]) rfl hB6 tyA32 rfl rfl ?_) (want_t rfl (decide_eq_false h20))
    refine rl (o_call (check_ok b m c ao cp ps _ _ rfl (by omega) hR) Tryd.call9 (fun v22 w23 hk24 hv25 => ?_)) (want_t rfl (decide_eq_false h20))
    have hl_b1_w23 := hB6.lt
    have hs_w23 := hK.size
    have hsk_w23 := hk24.size
    obtain rfl := hv25
    replace hK := hK.trans (Kp.ext hk24)
    replace hB6 := hB6.ext hk24
    replace hT := hT.ext hk24
    replace hR0 := hR0.ext hk24
    replace hR1 := hR1.ext hk24
    replace hR := hR.ext hk24
    refine rl (o_not rfl ?_) (want_t rfl (decide_eq_false h20))
    refine rl (o_pickF (v := .bool (!(check ⟨b, m, c, ps⟩))) rfl (decide_eq_false h20) rfl ?_) rfl
    refine rl (o_move (v := .bool (!(check ⟨b, m, c, ps⟩))) rfl ?_) rfl
    rcases Bool.eq_false_or_eq_true (!(check ⟨b, m, c, ps⟩)) with h26 | h26
    · skip
      refine rlo ?_ (want_f rfl (h26) (by decide))
      refine rlo ?_ (want_f rfl (h26) (by decide))
      refine rlo ?_ (want_f rfl (h26) (by decide))
      refine rl (o_pickT (v := .bool (true)) rfl (h26) rfl ?_) rfl
      refine rl (o_move (v := .bool (true)) rfl ?_) rfl
      refine rlo ?_ (want_f rfl (rfl) (by decide))
      refine rlo ?_ (want_f rfl (rfl) (by decide))
      refine rlo ?_ (want_f rfl (rfl) (by decide))
      refine rl (o_pickT (v := .bool (true)) rfl (rfl) rfl ?_) rfl
      refine rl_nil ?_
      refine k_tn ?_
      refine cw_norm [(0, .slice a0 s0.length p0), (1, .slice a1 s1.length p1), (3, .int .u16 (nn)), (6, .pointer (some ⟨b1, 0, none⟩)), (43, .bool (true))] ⟨rfl, rfl, rfl, rfl, rfl, trivial⟩ (fun ρn27 => ?_)
      refine cw_condT rfl ?_
      refine cw_reg rfl ?_
      refine rl (o_assign (v := .bool (true)) rfl ?_) rfl
      refine rl_nil ?_
      refine cw_ret ?_
      refine k_tr ?_
      refine ret_intro (v := .bool (true)) (res_ok (vs := [.bool (true)]) rfl ⟨rfl, trivial⟩) hK ?_
      exact rfl
    · skip
      refine rl (o_move (v := .slice a0 s0.length p0) rfl ?_) (want_t rfl (h26))
      refine rl (o_len rfl Tryd.underlying24 ?_) (want_t rfl (h26))
      refine rl (o_gtr rfl rfl ?_) (want_t rfl (h26))
      refine rl (o_pickF (v := .bool (decide (15 < ((s0.length : Nat) : Int)))) rfl (h26) rfl ?_) rfl
      refine rl (o_move (v := .bool (decide (15 < ((s0.length : Nat) : Int)))) rfl ?_) rfl
      by_cases h28 : 15 < ((s0.length : Nat) : Int)
      · skip
        refine rlo ?_ (want_f rfl (decide_eq_true h28) (by decide))
        refine rlo ?_ (want_f rfl (decide_eq_true h28) (by decide))
        refine rlo ?_ (want_f rfl (decide_eq_true h28) (by decide))
        refine rl (o_pickT (v := .bool (true)) rfl (decide_eq_true h28) rfl ?_) rfl
        refine rl_nil ?_
        refine k_tn ?_
        refine cw_norm [(0, .slice a0 s0.length p0), (1, .slice a1 s1.length p1), (3, .int .u16 (nn)), (6, .pointer (some ⟨b1, 0, none⟩)), (43, .bool (true))] ⟨rfl, rfl, rfl, rfl, rfl, trivial⟩ (fun ρn29 => ?_)
        refine cw_condT rfl ?_
        refine cw_reg rfl ?_
        refine rl (o_assign (v := .bool (true)) rfl ?_) rfl
        refine rl_nil ?_
        refine cw_ret ?_
        refine k_tr ?_
        refine ret_intro (v := .bool (true)) (res_ok (vs := [.bool (true)]) rfl ⟨rfl, trivial⟩) hK ?_
        exact rfl
      · skip
        refine rl (o_move (v := .slice a1 s1.length p1) rfl ?_) (want_t rfl (decide_eq_false h28))
        refine rl (o_len rfl Tryd.underlying24 ?_) (want_t rfl (decide_eq_false h28))
        refine rl (o_gtr rfl rfl ?_) (want_t rfl (decide_eq_false h28))
        refine rl (o_pickF (v := .bool (decide (15 < ((s1.length : Nat) : Int)))) rfl (decide_eq_false h28) rfl ?_) rfl
        refine rl_nil ?_
        refine k_tn ?_
        refine cw_norm [(0, .slice a0 s0.length p0), (1, .slice a1 s1.length p1), (3, .int .u16 (nn)), (6, .pointer (some ⟨b1, 0, none⟩)), (43, .bool (decide (15 < ((s1.length : Nat) : Int))))] ⟨rfl, rfl, rfl, rfl, rfl, trivial⟩ (fun ρn30 => ?_)
        refine cw_if rfl (fun h31 => ?_) (fun h31 => ?_)
        · skip
          refine cw_reg rfl ?_
          refine rl (o_assign (v := .bool (true)) rfl ?_) rfl
          refine rl_nil ?_
          refine cw_ret ?_
          refine k_tr ?_
          refine ret_intro (v := .bool (true)) (res_ok (vs := [.bool (true)]) rfl ⟨rfl, trivial⟩) hK ?_
          exact rfl
        · skip
          refine cw_skip ?_
          refine k_tn ?_
          refine cw_norm [(0, .slice a0 s0.length p0), (1, .slice a1 s1.length p1), (3, .int .u16 (nn)), (6, .pointer (some ⟨b1, 0, none⟩))] ⟨rfl, rfl, rfl, rfl, trivial⟩ (fun ρn32 => ?_)
          refine cw_seq ?_
          have hck : check ⟨b, m, c, ps⟩ = true := (by simpa using h26)
          have hl80 : ps.length ≤ 80 := by omega
          have hl0 : s0.length ≤ 15 := by omega
          have hl1 : s1.length ≤ 15 := by omega
          obtain ⟨hpp, hpb, hpm⟩ := permits_ok hck
          have hj0 : jload crcOf ⟨s0, s1, 0, [], false⟩ = (.zero, 0) := jload_short hB0 hB1 hl0 hl1
          obtain ⟨X1, hX1⟩ : ∃ X, jput crcOf ⟨b, m, c, ps⟩ 1 = X := ⟨_, rfl⟩
          have hBX : isB X1 := hX1 ▸ isB_jput _ _
          have hNX : X1.length ≤ 1000 := by have := jput_len8 ⟨b, m, c, ps⟩ 1; rw [hX1] at this; simp at this; omega
          have hj1 : jload crcOf ⟨s0, X1, 1, s1, true⟩ = (⟨b, m, 0, ps⟩, 1) := hX1 ▸ jload_first hB0 hl0 hck (by show ps.length ≤ 8000; omega)
          refine cw_region rfl ?_
          refine rl (o_move (v := .slice a0 s0.length p0) rfl ?_) rfl
          refine rl (o_move (v := .slice a1 s1.length p1) rfl ?_) rfl
          refine rl (o_call (from_ok a0 a1 p0 p1 s0 s1 _ _ _ rfl rfl (by omega) (by omega) hR0 hR1) Tryd.call7 (fun v33 w34 hk35 hv36 => ?_)) rfl
          have hl_b1_w34 := hB6.lt
          have hs_w34 := hK.size
          have hsk_w34 := hk35.size
          obtain ⟨aaf, abf, caf, cbf, rfl, hF0f, hF1f⟩ := hv36
          replace hK := hK.trans (Kp.ext hk35)
          replace hB6 := hB6.ext hk35
          replace hT := hT.ext hk35
          replace hR0 := hR0.ext hk35
          replace hR1 := hR1.ext hk35
          replace hR := hR.ext hk35
          replace hF0f := hF0f.mono (G := fun b => w23.heap.size ≤ b ∧ b < w34.heap.size) (fun b hb h => ⟨h, hb⟩)
          replace hF1f := hF1f.mono (G := fun b => w23.heap.size ≤ b ∧ b < w34.heap.size) (fun b hb h => ⟨h, hb⟩)
          have hTr_w34 := Kp.refl (fun _ => True) w34
          refine rl (o_alloc Tryd.zeroValue27 (fun b37 w38 hb39 hz40 hk41 hB42 => ?_)) rfl
          replace hB42 : Box w38 b37 [.slice none 0 0, .slice none 0 0, .int .i64 (0), .slice none 0 0, .bool (false)] 27 := hB42
          have hs_b37 := hK.size
          have hl_b1_b37 := hB6.lt
          have ht_hTr_w34_b37 := hTr_w34.size
          replace hK := hK.trans (Kp.ext hk41)
          replace hB6 := hB6.ext hk41
          replace hT := hT.ext hk41
          replace hR0 := hR0.ext hk41
          replace hR1 := hR1.ext hk41
          replace hR := hR.ext hk41
          replace hF0f := hF0f.ext hk41
          replace hF1f := hF1f.ext hk41
          replace hTr_w34 := hTr_w34.trans (Kp.ext hk41)
          refine rl0 (o_storeA (vs := [.slice aaf s0.length caf, .slice abf s1.length cbf, .int .i64 (0), .slice none 0 0, .bool (false)]) rfl rfl hB42 tyA27 rfl rfl (Nat.le_of_ble_eq_true rfl) (fun w43 hk44 hz45 hB46 => ?_)) rfl
          replace hB46 : Box w43 b37 [.slice aaf s0.length caf, .slice abf s1.length cbf, .int .i64 (0), .slice none 0 0, .bool (false)] 27 := hB46
          replace hK := hK.later hk44 (fun i hi hS => by have h1 : i = b37 := hS; omega)
          replace hB6 := hB6.kp hk44 (by show ¬ b1 = b37; omega)
          replace hT := hT.kp hk44 (fun h => by have h2 : (0 : Nat) = b37 := h; omega)
          replace hR0 := hR0.kp hk44 (fun i _ hF hS => by have h1 : i < w.heap.size := hF; have h2 : i = b37 := hS; omega)
          replace hR1 := hR1.kp hk44 (fun i _ hF hS => by have h1 : i < w.heap.size := hF; have h2 : i = b37 := hS; omega)
          replace hR := hR.kp hk44 (fun i _ hF hS => by have h1 : i < w.heap.size := hF; have h2 : i = b37 := hS; omega)
          replace hF0f := hF0f.kp hk44 (fun i _ hF hS => by have h1 : w23.heap.size ≤ i ∧ i < w34.heap.size := hF; have h2 : i = b37 := hS; omega)
          replace hF1f := hF1f.kp hk44 (fun i _ hF hS => by have h1 : w23.heap.size ≤ i ∧ i < w34.heap.size := hF; have h2 : i = b37 := hS; omega)
          replace hTr_w34 := hTr_w34.trans (hk44.mono (fun _ _ _ => trivial))
          replace hB42 := hB46
          refine rl_nil ?_
          refine k_tn ?_
          refine cw_norm [(0, .slice a0 s0.length p0), (1, .slice a1 s1.length p1), (3, .int .u16 (nn)), (6, .pointer (some ⟨b1, 0, none⟩)), (11, .pointer (some ⟨b37, 0, none⟩))] ⟨rfl, rfl, rfl, rfl, rfl, trivial⟩ (fun ρn47 => ?_)
          refine cw_seq ?_
          refine cw_region rfl ?_
          refine rl (o_loadBA (ds := [.slice aaf s0.length caf, .slice abf s1.length cbf, .int .i64 (0), .slice none 0 0, .bool (false)]) rfl hB42 tyA27 rfl rfl ?_) rfl
          refine rl (o_call (jload_to _ _ _ _ _ _ s0 s1 [] 0 false s0.length s1.length 0 .zero 0 false _ hj0 rfl rfl rfl rfl (by omega) (by omega) hB0 hB1 hT hF0f hF1f) Tryd.call12 (fun v48 w49 hk50 hv51 => ?_)) rfl
          have hl_b1_w49 := hB6.lt
          have hl_b37_w49 := hB42.lt
          have hs_w49 := hK.size
          have hsk_w49 := hk50.size
          obtain ⟨aoz, cz, rfl, hLz⟩ := hv51
          replace hK := hK.trans (Kp.ext hk50)
          replace hB6 := hB6.ext hk50
          replace hB42 := hB42.ext hk50
          replace hT := hT.ext hk50
          replace hR0 := hR0.ext hk50
          replace hR1 := hR1.ext hk50
          replace hR := hR.ext hk50
          replace hF0f := hF0f.ext hk50
          replace hF1f := hF1f.ext hk50
          replace hTr_w34 := hTr_w34.trans (Kp.ext hk50)
          replace hLz := hLz.mono (G := fun b => w43.heap.size ≤ b ∧ b < w49.heap.size) (fun b hb h => ⟨h, hb⟩)
          have hTr_w49 := Kp.refl (fun _ => True) w49
          refine rl (o_move (v := .tuple #[.agg #[.int .i64 (0), .int .i64 (0), .int .i64 (0), .slice aoz 0 cz], .int .u64 (0), .bool (false)]) rfl ?_) rfl
          refine rl (o_extract (vs := [.agg #[.int .i64 (0), .int .i64 (0), .int .i64 (0), .slice aoz 0 cz], .int .u64 (0), .bool (false)]) (v := .agg #[.int .i64 (0), .int .i64 (0), .int .i64 (0), .slice aoz 0 cz]) rfl rfl ?_) rfl
          refine rl (o_extract (vs := [.agg #[.int .i64 (0), .int .i64 (0), .int .i64 (0), .slice aoz 0 cz], .int .u64 (0), .bool (false)]) (v := .int .u64 (0)) rfl rfl ?_) rfl
          refine rl (o_extract (vs := [.agg #[.int .i64 (0), .int .i64 (0), .int .i64 (0), .slice aoz 0 cz], .int .u64 (0), .bool (false)]) (v := .bool (false)) rfl rfl ?_) rfl
          refine rl (o_alloc Tryd.zeroValue32 (fun b52 w53 hb54 hz55 hk56 hB57 => ?_)) rfl
          replace hB57 : Box w53 b52 [.int .i64 (0), .int .i64 (0), .int .i64 (0), .slice none 0 0] 32 := hB57
          have hs_b52 := hK.size
          have hl_b1_b52 := hB6.lt
          have hl_b37_b52 := hB42.lt
          have ht_hTr_w34_b52 := hTr_w34.size
          have ht_hTr_w49_b52 := hTr_w49.size
          replace hK := hK.trans (Kp.ext hk56)
          replace hB6 := hB6.ext hk56
          replace hB42 := hB42.ext hk56
          replace hT := hT.ext hk56
          replace hR0 := hR0.ext hk56
          replace hR1 := hR1.ext hk56
          replace hR := hR.ext hk56
          replace hF0f := hF0f.ext hk56
          replace hF1f := hF1f.ext hk56
          replace hTr_w34 := hTr_w34.trans (Kp.ext hk56)
          replace hLz := hLz.ext hk56
          replace hTr_w49 := hTr_w49.trans (Kp.ext hk56)
          refine rl0 (o_storeA (vs := [.int .i64 (0), .int .i64 (0), .int .i64 (0), .slice aoz 0 cz]) rfl rfl hB57 tyA32 rfl rfl (Nat.le_of_ble_eq_true rfl) (fun w58 hk59 hz60 hB61 => ?_)) rfl
          replace hB61 : Box w58 b52 [.int .i64 (0), .int .i64 (0), .int .i64 (0), .slice aoz 0 cz] 32 := hB61
          replace hK := hK.later hk59 (fun i hi hS => by have h1 : i = b52 := hS; omega)
          replace hB6 := hB6.kp hk59 (by show ¬ b1 = b52; omega)
          replace hB42 := hB42.kp hk59 (by show ¬ b37 = b52; omega)
          replace hT := hT.kp hk59 (fun h => by have h2 : (0 : Nat) = b52 := h; omega)
          replace hR0 := hR0.kp hk59 (fun i _ hF hS => by have h1 : i < w.heap.size := hF; have h2 : i = b52 := hS; omega)
          replace hR1 := hR1.kp hk59 (fun i _ hF hS => by have h1 : i < w.heap.size := hF; have h2 : i = b52 := hS; omega)
          replace hR := hR.kp hk59 (fun i _ hF hS => by have h1 : i < w.heap.size := hF; have h2 : i = b52 := hS; omega)
          replace hF0f := hF0f.kp hk59 (fun i _ hF hS => by have h1 : w23.heap.size ≤ i ∧ i < w34.heap.size := hF; have h2 : i = b52 := hS; omega)
          replace hF1f := hF1f.kp hk59 (fun i _ hF hS => by have h1 : w23.heap.size ≤ i ∧ i < w34.heap.size := hF; have h2 : i = b52 := hS; omega)
          replace hTr_w34 := hTr_w34.trans (hk59.mono (fun _ _ _ => trivial))
          replace hLz := hLz.kp hk59 (fun i _ hF hS => by have h1 : w43.heap.size ≤ i ∧ i < w49.heap.size := hF; have h2 : i = b52 := hS; omega)
          replace hTr_w49 := hTr_w49.trans (hk59.mono (fun _ _ _ => trivial))
          replace hB57 := hB61
          refine rl (o_assign (v := .int .u64 (0)) rfl ?_) rfl
          refine rl (o_assign (v := .bool (false)) rfl ?_) rfl
          refine rl_nil ?_
          refine k_tn ?_
          refine cw_norm [(0, .slice a0 s0.length p0), (1, .slice a1 s1.length p1), (3, .int .u16 (nn)), (6, .pointer (some ⟨b1, 0, none⟩)), (11, .pointer (some ⟨b37, 0, none⟩)), (12, .pointer (some ⟨b52, 0, none⟩)), (13, .int .u64 (0)), (14, .bool (false))] ⟨rfl, rfl, rfl, rfl, rfl, rfl, rfl, rfl, trivial⟩ (fun ρn62 => ?_)
          refine cw_seq ?_
          refine cw_region rfl ?_
          refine rl (o_loadBA (ds := [.slice aaf s0.length caf, .slice abf s1.length cbf, .int .i64 (0), .slice none 0 0, .bool (false)]) rfl hB42 tyA27 rfl rfl ?_) rfl
          refine rl (o_loadBA (ds := [.int .i64 (b), .int .i64 (m), .int .i64 (c), .slice ao ps.length cp]) rfl hB6 tyA32 rfl rfl ?_) rfl
          refine rl (o_call (write1_to _ _ _ _ _ _ s0 s1 [] 0 false b m c _ _ ps _ _ _ _ 1 X1 _ (by rw [hj0]; rfl) hX1 (by decide) (by decide) rfl rfl rfl rfl (by omega) (by omega) hB0 hB1 (by omega) hpp hpb hpm hT hF0f hF1f hR) Tryd.call11 (fun v63 w64 hk65 hv66 => ?_)) rfl
          have hl_b1_w64 := hB6.lt
          have hl_b37_w64 := hB42.lt
          have hl_b52_w64 := hB57.lt
          have hs_w64 := hK.size
          have hsk_w64 := hk65.size
          obtain ⟨aw3, cw3, rfl, hP⟩ := hv66
          replace hK := hK.trans (Kp.ext hk65)
          replace hB6 := hB6.ext hk65
          replace hB42 := hB42.ext hk65
          replace hB57 := hB57.ext hk65
          replace hT := hT.ext hk65
          replace hR0 := hR0.ext hk65
          replace hR1 := hR1.ext hk65
          replace hR := hR.ext hk65
          replace hF0f := hF0f.ext hk65
          replace hF1f := hF1f.ext hk65
          replace hTr_w34 := hTr_w34.trans (Kp.ext hk65)
          replace hLz := hLz.ext hk65
          replace hTr_w49 := hTr_w49.trans (Kp.ext hk65)
          replace hP := hP.mono (G := fun b => w58.heap.size ≤ b ∧ b < w64.heap.size) (fun b hb h => ⟨h, hb⟩)
          have hTr_w64 := Kp.refl (fun _ => True) w64
          refine rl (o_alloc Tryd.zeroValue27 (fun b67 w68 hb69 hz70 hk71 hB72 => ?_)) rfl
          replace hB72 : Box w68 b67 [.slice none 0 0, .slice none 0 0, .int .i64 (0), .slice none 0 0, .bool (false)] 27 := hB72
          have hs_b67 := hK.size
          have hl_b1_b67 := hB6.lt
          have hl_b37_b67 := hB42.lt
          have hl_b52_b67 := hB57.lt
          have ht_hTr_w34_b67 := hTr_w34.size
          have ht_hTr_w49_b67 := hTr_w49.size
          have ht_hTr_w64_b67 := hTr_w64.size
          replace hK := hK.trans (Kp.ext hk71)
          replace hB6 := hB6.ext hk71
          replace hB42 := hB42.ext hk71
          replace hB57 := hB57.ext hk71
          replace hT := hT.ext hk71
          replace hR0 := hR0.ext hk71
          replace hR1 := hR1.ext hk71
          replace hR := hR.ext hk71
          replace hF0f := hF0f.ext hk71
          replace hF1f := hF1f.ext hk71
          replace hTr_w34 := hTr_w34.trans (Kp.ext hk71)
          replace hLz := hLz.ext hk71
          replace hTr_w49 := hTr_w49.trans (Kp.ext hk71)
          replace hP := hP.ext hk71
          replace hTr_w64 := hTr_w64.trans (Kp.ext hk71)
          refine rl0 (o_storeA (vs := [.slice aaf s0.length caf, .slice aw3 X1.length cw3, .int .i64 (1), .slice abf s1.length cbf, .bool (true)]) rfl rfl hB72 tyA27 rfl rfl (Nat.le_of_ble_eq_true rfl) (fun w73 hk74 hz75 hB76 => ?_)) rfl
          replace hB76 : Box w73 b67 [.slice aaf s0.length caf, .slice aw3 X1.length cw3, .int .i64 (1), .slice abf s1.length cbf, .bool (true)] 27 := hB76
          replace hK := hK.later hk74 (fun i hi hS => by have h1 : i = b67 := hS; omega)
          replace hB6 := hB6.kp hk74 (by show ¬ b1 = b67; omega)
          replace hB42 := hB42.kp hk74 (by show ¬ b37 = b67; omega)
          replace hB57 := hB57.kp hk74 (by show ¬ b52 = b67; omega)
          replace hT := hT.kp hk74 (fun h => by have h2 : (0 : Nat) = b67 := h; omega)
          replace hR0 := hR0.kp hk74 (fun i _ hF hS => by have h1 : i < w.heap.size := hF; have h2 : i = b67 := hS; omega)
          replace hR1 := hR1.kp hk74 (fun i _ hF hS => by have h1 : i < w.heap.size := hF; have h2 : i = b67 := hS; omega)
          replace hR := hR.kp hk74 (fun i _ hF hS => by have h1 : i < w.heap.size := hF; have h2 : i = b67 := hS; omega)
          replace hF0f := hF0f.kp hk74 (fun i _ hF hS => by have h1 : w23.heap.size ≤ i ∧ i < w34.heap.size := hF; have h2 : i = b67 := hS; omega)
          replace hF1f := hF1f.kp hk74 (fun i _ hF hS => by have h1 : w23.heap.size ≤ i ∧ i < w34.heap.size := hF; have h2 : i = b67 := hS; omega)
          replace hTr_w34 := hTr_w34.trans (hk74.mono (fun _ _ _ => trivial))
          replace hLz := hLz.kp hk74 (fun i _ hF hS => by have h1 : w43.heap.size ≤ i ∧ i < w49.heap.size := hF; have h2 : i = b67 := hS; omega)
          replace hTr_w49 := hTr_w49.trans (hk74.mono (fun _ _ _ => trivial))
          replace hP := hP.kp hk74 (fun i _ hF hS => by have h1 : w58.heap.size ≤ i ∧ i < w64.heap.size := hF; have h2 : i = b67 := hS; omega)
          replace hTr_w64 := hTr_w64.trans (hk74.mono (fun _ _ _ => trivial))
          replace hB72 := hB76
          refine rl_nil ?_
          refine k_tn ?_
          refine cw_norm [(0, .slice a0 s0.length p0), (1, .slice a1 s1.length p1), (3, .int .u16 (nn)), (11, .pointer (some ⟨b37, 0, none⟩)), (12, .pointer (some ⟨b52, 0, none⟩)), (13, .int .u64 (0)), (14, .bool (false)), (15, .pointer (some ⟨b67, 0, none⟩))] ⟨rfl, rfl, rfl, rfl, rfl, rfl, rfl, rfl, trivial⟩ (fun ρn77 => ?_)
          refine cw_seq ?_
          refine cw_region rfl ?_
          refine rl (o_loadBA (ds := [.slice aaf s0.length caf, .slice aw3 X1.length cw3, .int .i64 (1), .slice abf s1.length cbf, .bool (true)]) rfl hB72 tyA27 rfl rfl ?_) rfl
          refine rl (o_call (jload_to _ _ _ _ _ _ s0 X1 s1 1 true s0.length X1.length s1.length ⟨b, m, 0, ps⟩ 1 true _ hj1 rfl rfl rfl rfl (by omega) (by omega) hB0 hBX hT hF0f hP) Tryd.call12 (fun v78 w79 hk80 hv81 => ?_)) rfl
          have hl_b1_w79 := hB6.lt
          have hl_b37_w79 := hB42.lt
          have hl_b52_w79 := hB57.lt
          have hl_b67_w79 := hB72.lt
          have hs_w79 := hK.size
          have hsk_w79 := hk80.size
          obtain ⟨aoy, cy, rfl, hLy⟩ := hv81
          replace hK := hK.trans (Kp.ext hk80)
          replace hB6 := hB6.ext hk80
          replace hB42 := hB42.ext hk80
          replace hB57 := hB57.ext hk80
          replace hB72 := hB72.ext hk80
          replace hT := hT.ext hk80
          replace hR0 := hR0.ext hk80
          replace hR1 := hR1.ext hk80
          replace hR := hR.ext hk80
          replace hF0f := hF0f.ext hk80
          replace hF1f := hF1f.ext hk80
          replace hTr_w34 := hTr_w34.trans (Kp.ext hk80)
          replace hLz := hLz.ext hk80
          replace hTr_w49 := hTr_w49.trans (Kp.ext hk80)
          replace hP := hP.ext hk80
          replace hTr_w64 := hTr_w64.trans (Kp.ext hk80)
          replace hLy := hLy.mono (G := fun b => w73.heap.size ≤ b ∧ b < w79.heap.size) (fun b hb h => ⟨h, hb⟩)
          have hTr_w79 := Kp.refl (fun _ => True) w79
          refine rl (o_move (v := .tuple #[.agg #[.int .i64 (b), .int .i64 (m), .int .i64 (0), .slice aoy ps.length cy], .int .u64 (1), .bool (true)]) rfl ?_) rfl
          refine rl (o_extract (vs := [.agg #[.int .i64 (b), .int .i64 (m), .int .i64 (0), .slice aoy ps.length cy], .int .u64 (1), .bool (true)]) (v := .agg #[.int .i64 (b), .int .i64 (m), .int .i64 (0), .slice aoy ps.length cy]) rfl rfl ?_) rfl
          refine rl (o_extract (vs := [.agg #[.int .i64 (b), .int .i64 (m), .int .i64 (0), .slice aoy ps.length cy], .int .u64 (1), .bool (true)]) (v := .int .u64 (1)) rfl rfl ?_) rfl
          refine rl (o_extract (vs := [.agg #[.int .i64 (b), .int .i64 (m), .int .i64 (0), .slice aoy ps.length cy], .int .u64 (1), .bool (true)]) (v := .bool (true)) rfl rfl ?_) rfl
          refine rl (o_alloc Tryd.zeroValue32 (fun b82 w83 hb84 hz85 hk86 hB87 => ?_)) rfl
          replace hB87 : Box w83 b82 [.int .i64 (0), .int .i64 (0), .int .i64 (0), .slice none 0 0] 32 := hB87
          have hs_b82 := hK.size
          have hl_b1_b82 := hB6.lt
          have hl_b37_b82 := hB42.lt
          have hl_b52_b82 := hB57.lt
          have hl_b67_b82 := hB72.lt
          have ht_hTr_w34_b82 := hTr_w34.size
          have ht_hTr_w49_b82 := hTr_w49.size
          have ht_hTr_w64_b82 := hTr_w64.size
          have ht_hTr_w79_b82 := hTr_w79.size
          replace hK := hK.trans (Kp.ext hk86)
          replace hB6 := hB6.ext hk86
          replace hB42 := hB42.ext hk86
          replace hB57 := hB57.ext hk86
          replace hB72 := hB72.ext hk86
          replace hT := hT.ext hk86
          replace hR0 := hR0.ext hk86
          replace hR1 := hR1.ext hk86
          replace hR := hR.ext hk86
          replace hF0f := hF0f.ext hk86
          replace hF1f := hF1f.ext hk86
          replace hTr_w34 := hTr_w34.trans (Kp.ext hk86)
          replace hLz := hLz.ext hk86
          replace hTr_w49 := hTr_w49.trans (Kp.ext hk86)
          replace hP := hP.ext hk86
          replace hTr_w64 := hTr_w64.trans (Kp.ext hk86)
          replace hLy := hLy.ext hk86
          replace hTr_w79 := hTr_w79.trans (Kp.ext hk86)
          refine rl0 (o_storeA (vs := [.int .i64 (b), .int .i64 (m), .int .i64 (0), .slice aoy ps.length cy]) rfl rfl hB87 tyA32 rfl rfl (Nat.le_of_ble_eq_true rfl) (fun w88 hk89 hz90 hB91 => ?_)) rfl
          replace hB91 : Box w88 b82 [.int .i64 (b), .int .i64 (m), .int .i64 (0), .slice aoy ps.length cy] 32 := hB91
          replace hK := hK.later hk89 (fun i hi hS => by have h1 : i = b82 := hS; omega)
          replace hB6 := hB6.kp hk89 (by show ¬ b1 = b82; omega)
          replace hB42 := hB42.kp hk89 (by show ¬ b37 = b82; omega)
          replace hB57 := hB57.kp hk89 (by show ¬ b52 = b82; omega)
          replace hB72 := hB72.kp hk89 (by show ¬ b67 = b82; omega)
          replace hT := hT.kp hk89 (fun h => by have h2 : (0 : Nat) = b82 := h; omega)
          replace hR0 := hR0.kp hk89 (fun i _ hF hS => by have h1 : i < w.heap.size := hF; have h2 : i = b82 := hS; omega)
          replace hR1 := hR1.kp hk89 (fun i _ hF hS => by have h1 : i < w.heap.size := hF; have h2 : i = b82 := hS; omega)
          replace hR := hR.kp hk89 (fun i _ hF hS => by have h1 : i < w.heap.size := hF; have h2 : i = b82 := hS; omega)
          replace hF0f := hF0f.kp hk89 (fun i _ hF hS => by have h1 : w23.heap.size ≤ i ∧ i < w34.heap.size := hF; have h2 : i = b82 := hS; omega)
          replace hF1f := hF1f.kp hk89 (fun i _ hF hS => by have h1 : w23.heap.size ≤ i ∧ i < w34.heap.size := hF; have h2 : i = b82 := hS; omega)
          replace hTr_w34 := hTr_w34.trans (hk89.mono (fun _ _ _ => trivial))
          replace hLz := hLz.kp hk89 (fun i _ hF hS => by have h1 : w43.heap.size ≤ i ∧ i < w49.heap.size := hF; have h2 : i = b82 := hS; omega)
          replace hTr_w49 := hTr_w49.trans (hk89.mono (fun _ _ _ => trivial))
          replace hP := hP.kp hk89 (fun i _ hF hS => by have h1 : w58.heap.size ≤ i ∧ i < w64.heap.size := hF; have h2 : i = b82 := hS; omega)
          replace hTr_w64 := hTr_w64.trans (hk89.mono (fun _ _ _ => trivial))
          replace hLy := hLy.kp hk89 (fun i _ hF hS => by have h1 : w73.heap.size ≤ i ∧ i < w79.heap.size := hF; have h2 : i = b82 := hS; omega)
          replace hTr_w79 := hTr_w79.trans (hk89.mono (fun _ _ _ => trivial))
          replace hB87 := hB91
          refine rl (o_assign (v := .int .u64 (1)) rfl ?_) rfl
          refine rl (o_assign (v := .bool (true)) rfl ?_) rfl
          refine rl_nil ?_
          refine k_tn ?_
          refine cw_norm [(0, .slice a0 s0.length p0), (1, .slice a1 s1.length p1), (3, .int .u16 (nn)), (11, .pointer (some ⟨b37, 0, none⟩)), (12, .pointer (some ⟨b52, 0, none⟩)), (13, .int .u64 (0)), (14, .bool (false)), (15, .pointer (some ⟨b67, 0, none⟩)), (17, .int .u64 (1)), (18, .bool (true))] ⟨rfl, rfl, rfl, rfl, rfl, rfl, rfl, rfl, rfl, rfl, trivial⟩ (fun ρn92 => ?_)
          refine cw_seq ?_
          refine cw_region rfl ?_
          refine rl (o_loadBA (ds := [.slice aaf s0.length caf, .slice aw3 X1.length cw3, .int .i64 (1), .slice abf s1.length cbf, .bool (true)]) rfl hB72 tyA27 rfl rfl ?_) rfl
          refine rl (o_call (slots_ok (Fw := Non) _ _ _ _ _ _ s0 X1 s1 1 true _ _ _ _ rfl rfl rfl (by omega) (by omega) hF0f hP) Tryd.call10 (fun v93 w94 hk95 hv96 => ?_)) rfl
          have hl_b1_w94 := hB6.lt
          have hl_b37_w94 := hB42.lt
          have hl_b52_w94 := hB57.lt
          have hl_b67_w94 := hB72.lt
          have hl_b82_w94 := hB87.lt
          have hs_w94 := hK.size
          have hsk_w94 := hk95.size
          obtain ⟨bsp, as0p, as1p, cs0p, cs1p, rfl, hgsp, hBsp, hS0p, hS1p⟩ := hv96
          replace hK := hK.trans (Kp.ext hk95)
          replace hB6 := hB6.ext hk95
          replace hB42 := hB42.ext hk95
          replace hB57 := hB57.ext hk95
          replace hB72 := hB72.ext hk95
          replace hB87 := hB87.ext hk95
          replace hT := hT.ext hk95
          replace hR0 := hR0.ext hk95
          replace hR1 := hR1.ext hk95
          replace hR := hR.ext hk95
          replace hF0f := hF0f.ext hk95
          replace hF1f := hF1f.ext hk95
          replace hTr_w34 := hTr_w34.trans (Kp.ext hk95)
          replace hLz := hLz.ext hk95
          replace hTr_w49 := hTr_w49.trans (Kp.ext hk95)
          replace hP := hP.ext hk95
          replace hTr_w64 := hTr_w64.trans (Kp.ext hk95)
          replace hLy := hLy.ext hk95
          replace hTr_w79 := hTr_w79.trans (Kp.ext hk95)
          replace hS0p := hS0p.mono (G := fun b => w88.heap.size ≤ b ∧ b < w94.heap.size) (fun b hb h => ⟨h, hb⟩)
          replace hS1p := hS1p.mono (G := fun b => w88.heap.size ≤ b ∧ b < w94.heap.size) (fun b hb h => ⟨h, hb⟩)
          have hTr_w94 := Kp.refl (fun _ => True) w94
          refine rl (o_assign (v := .slice ((some ⟨bsp, 0, none⟩)) 2 2) rfl ?_) rfl
          refine rl_nil ?_
          refine k_tn ?_
          refine cw_norm [(0, .slice a0 s0.length p0), (1, .slice a1 s1.length p1), (3, .int .u16 (nn)), (11, .pointer (some ⟨b37, 0, none⟩)), (12, .pointer (some ⟨b52, 0, none⟩)), (13, .int .u64 (0)), (14, .bool (false)), (15, .pointer (some ⟨b67, 0, none⟩)), (17, .int .u64 (1)), (18, .bool (true)), (19, .slice ((some ⟨bsp, 0, none⟩)) 2 2)] ⟨rfl, rfl, rfl, rfl, rfl, rfl, rfl, rfl, rfl, rfl, rfl, trivial⟩ (fun ρn97 => ?_)
          refine cw_seq ?_
          refine cw_region rfl ?_
          refine rl (o_loadBA (ds := [.slice aaf s0.length caf, .slice aw3 X1.length cw3, .int .i64 (1), .slice abf s1.length cbf, .bool (true)]) rfl hB72 tyA27 rfl rfl ?_) rfl
          refine rl (o_move (v := .int .u16 (nn)) rfl ?_) rfl
          refine rl (o_convI (a := nn) rfl ⟨_, Tryd.underlying46⟩ Tryd.underlying3 (by show (-9223372036854775808 : Int) ≤ _; omega) (by show _ ≤ (9223372036854775807 : Int); omega) ?_) rfl
          refine rl (o_add64 (a := 5000) (b := nn) rfl rfl (by omega) (by omega) ?_) rfl
          refine rl (o_call (tearu1_ok _ _ _ _ _ _ s0 X1 s1 true (5000 + nn) _ (.inr (by omega))) Tryd.call16 (fun v98 w99 hk100 hv101 => ?_)) rfl
          have hl_b1_w99 := hB6.lt
          have hl_b37_w99 := hB42.lt
          have hl_b52_w99 := hB57.lt
          have hl_b67_w99 := hB72.lt
          have hl_b82_w99 := hB87.lt
          have hl_bsp_w99 := hBsp.lt
          have hs_w99 := hK.size
          have hsk_w99 := hk100.size
          obtain rfl := hv101
          replace hK := hK.trans (Kp.ext hk100)
          replace hB6 := hB6.ext hk100
          replace hB42 := hB42.ext hk100
          replace hB57 := hB57.ext hk100
          replace hB72 := hB72.ext hk100
          replace hB87 := hB87.ext hk100
          replace hBsp := hBsp.ext hk100
          replace hT := hT.ext hk100
          replace hR0 := hR0.ext hk100
          replace hR1 := hR1.ext hk100
          replace hR := hR.ext hk100
          replace hF0f := hF0f.ext hk100
          replace hF1f := hF1f.ext hk100
          replace hTr_w34 := hTr_w34.trans (Kp.ext hk100)
          replace hLz := hLz.ext hk100
          replace hTr_w49 := hTr_w49.trans (Kp.ext hk100)
          replace hP := hP.ext hk100
          replace hTr_w64 := hTr_w64.trans (Kp.ext hk100)
          replace hLy := hLy.ext hk100
          replace hTr_w79 := hTr_w79.trans (Kp.ext hk100)
          replace hS0p := hS0p.ext hk100
          replace hS1p := hS1p.ext hk100
          replace hTr_w94 := hTr_w94.trans (Kp.ext hk100)
          refine rl (o_call (slots_ok (Fw := Non) _ _ _ _ _ _ s0 X1 s1 1 true _ _ _ _ rfl rfl rfl (by omega) (by omega) hF0f hP) Tryd.call10 (fun v102 w103 hk104 hv105 => ?_)) rfl
          have hl_b1_w103 := hB6.lt
          have hl_b37_w103 := hB42.lt
          have hl_b52_w103 := hB57.lt
          have hl_b67_w103 := hB72.lt
          have hl_b82_w103 := hB87.lt
          have hl_bsp_w103 := hBsp.lt
          have hs_w103 := hK.size
          have hsk_w103 := hk104.size
          obtain ⟨bsq, as0q, as1q, cs0q, cs1q, rfl, hgsq, hBsq, hS0q, hS1q⟩ := hv105
          replace hK := hK.trans (Kp.ext hk104)
          replace hB6 := hB6.ext hk104
          replace hB42 := hB42.ext hk104
          replace hB57 := hB57.ext hk104
          replace hB72 := hB72.ext hk104
          replace hB87 := hB87.ext hk104
          replace hBsp := hBsp.ext hk104
          replace hT := hT.ext hk104
          replace hR0 := hR0.ext hk104
          replace hR1 := hR1.ext hk104
          replace hR := hR.ext hk104
          replace hF0f := hF0f.ext hk104
          replace hF1f := hF1f.ext hk104
          replace hTr_w34 := hTr_w34.trans (Kp.ext hk104)
          replace hLz := hLz.ext hk104
          replace hTr_w49 := hTr_w49.trans (Kp.ext hk104)
          replace hP := hP.ext hk104
          replace hTr_w64 := hTr_w64.trans (Kp.ext hk104)
          replace hLy := hLy.ext hk104
          replace hTr_w79 := hTr_w79.trans (Kp.ext hk104)
          replace hS0p := hS0p.ext hk104
          replace hS1p := hS1p.ext hk104
          replace hTr_w94 := hTr_w94.trans (Kp.ext hk104)
          replace hS0q := hS0q.mono (G := fun b => w99.heap.size ≤ b ∧ b < w103.heap.size) (fun b hb h => ⟨h, hb⟩)
          replace hS1q := hS1q.mono (G := fun b => w99.heap.size ≤ b ∧ b < w103.heap.size) (fun b hb h => ⟨h, hb⟩)
          have hTr_w103 := Kp.refl (fun _ => True) w103
          refine rl (o_assign (v := .slice ((some ⟨bsq, 0, none⟩)) 2 2) rfl ?_) rfl
          refine rl_nil ?_
          refine k_tn ?_
          refine cw_norm [(0, .slice a0 s0.length p0), (1, .slice a1 s1.length p1), (3, .int .u16 (nn)), (11, .pointer (some ⟨b37, 0, none⟩)), (12, .pointer (some ⟨b52, 0, none⟩)), (13, .int .u64 (0)), (14, .bool (false)), (17, .int .u64 (1)), (18, .bool (true)), (19, .slice ((some ⟨bsp, 0, none⟩)) 2 2), (20, .slice ((some ⟨bsq, 0, none⟩)) 2 2)] ⟨rfl, rfl, rfl, rfl, rfl, rfl, rfl, rfl, rfl, rfl, rfl, trivial⟩ (fun ρn106 => ?_)
          refine cw_seq ?_
          refine cw_region rfl ?_
          refine rl (o_loadBA (ds := [.slice aaf s0.length caf, .slice abf s1.length cbf, .int .i64 (0), .slice none 0 0, .bool (false)]) rfl hB42 tyA27 rfl rfl ?_) rfl
          refine rl (o_move (v := .int .u16 (nn)) rfl ?_) rfl
          refine rl (o_convI (a := nn) rfl ⟨_, Tryd.underlying46⟩ Tryd.underlying3 (by show (-9223372036854775808 : Int) ≤ _; omega) (by show _ ≤ (9223372036854775807 : Int); omega) ?_) rfl
          refine rl (o_call (tearu0_ok _ _ _ _ _ _ s0 s1 [] false nn _ (.inl rfl)) Tryd.call16 (fun v107 w108 hk109 hv110 => ?_)) rfl
          have hl_b1_w108 := hB6.lt
          have hl_b37_w108 := hB42.lt
          have hl_b52_w108 := hB57.lt
          have hl_b67_w108 := hB72.lt
          have hl_b82_w108 := hB87.lt
          have hl_bsp_w108 := hBsp.lt
          have hl_bsq_w108 := hBsq.lt
          have hs_w108 := hK.size
          have hsk_w108 := hk109.size
          obtain rfl := hv110
          replace hK := hK.trans (Kp.ext hk109)
          replace hB6 := hB6.ext hk109
          replace hB42 := hB42.ext hk109
          replace hB57 := hB57.ext hk109
          replace hB72 := hB72.ext hk109
          replace hB87 := hB87.ext hk109
          replace hBsp := hBsp.ext hk109
          replace hBsq := hBsq.ext hk109
          replace hT := hT.ext hk109
          replace hR0 := hR0.ext hk109
          replace hR1 := hR1.ext hk109
          replace hR := hR.ext hk109
          replace hF0f := hF0f.ext hk109
          replace hF1f := hF1f.ext hk109
          replace hTr_w34 := hTr_w34.trans (Kp.ext hk109)
          replace hLz := hLz.ext hk109
          replace hTr_w49 := hTr_w49.trans (Kp.ext hk109)
          replace hP := hP.ext hk109
          replace hTr_w64 := hTr_w64.trans (Kp.ext hk109)
          replace hLy := hLy.ext hk109
          replace hTr_w79 := hTr_w79.trans (Kp.ext hk109)
          replace hS0p := hS0p.ext hk109
          replace hS1p := hS1p.ext hk109
          replace hTr_w94 := hTr_w94.trans (Kp.ext hk109)
          replace hS0q := hS0q.ext hk109
          replace hS1q := hS1q.ext hk109
          replace hTr_w103 := hTr_w103.trans (Kp.ext hk109)
          refine rl (o_call (slots_ok (Fw := Non) _ _ _ _ _ _ s0 s1 [] 0 false _ _ _ _ rfl rfl rfl (by omega) (by omega) hF0f hF1f) Tryd.call10 (fun v111 w112 hk113 hv114 => ?_)) rfl
          have hl_b1_w112 := hB6.lt
          have hl_b37_w112 := hB42.lt
          have hl_b52_w112 := hB57.lt
          have hl_b67_w112 := hB72.lt
          have hl_b82_w112 := hB87.lt
          have hl_bsp_w112 := hBsp.lt
          have hl_bsq_w112 := hBsq.lt
          have hs_w112 := hK.size
          have hsk_w112 := hk113.size
          obtain ⟨bsr, as0r, as1r, cs0r, cs1r, rfl, hgsr, hBsr, hS0r, hS1r⟩ := hv114
          replace hK := hK.trans (Kp.ext hk113)
          replace hB6 := hB6.ext hk113
          replace hB42 := hB42.ext hk113
          replace hB57 := hB57.ext hk113
          replace hB72 := hB72.ext hk113
          replace hB87 := hB87.ext hk113
          replace hBsp := hBsp.ext hk113
          replace hBsq := hBsq.ext hk113
          replace hT := hT.ext hk113
          replace hR0 := hR0.ext hk113
          replace hR1 := hR1.ext hk113
          replace hR := hR.ext hk113
          replace hF0f := hF0f.ext hk113
          replace hF1f := hF1f.ext hk113
          replace hTr_w34 := hTr_w34.trans (Kp.ext hk113)
          replace hLz := hLz.ext hk113
          replace hTr_w49 := hTr_w49.trans (Kp.ext hk113)
          replace hP := hP.ext hk113
          replace hTr_w64 := hTr_w64.trans (Kp.ext hk113)
          replace hLy := hLy.ext hk113
          replace hTr_w79 := hTr_w79.trans (Kp.ext hk113)
          replace hS0p := hS0p.ext hk113
          replace hS1p := hS1p.ext hk113
          replace hTr_w94 := hTr_w94.trans (Kp.ext hk113)
          replace hS0q := hS0q.ext hk113
          replace hS1q := hS1q.ext hk113
          replace hTr_w103 := hTr_w103.trans (Kp.ext hk113)
          replace hS0r := hS0r.mono (G := fun b => w108.heap.size ≤ b ∧ b < w112.heap.size) (fun b hb h => ⟨h, hb⟩)
          replace hS1r := hS1r.mono (G := fun b => w108.heap.size ≤ b ∧ b < w112.heap.size) (fun b hb h => ⟨h, hb⟩)
          have hTr_w112 := Kp.refl (fun _ => True) w112
          refine rl (o_assign (v := .slice ((some ⟨bsr, 0, none⟩)) 2 2) rfl ?_) rfl
          refine rl_nil ?_
          refine k_tn ?_
          refine cw_norm [(0, .slice a0 s0.length p0), (1, .slice a1 s1.length p1), (12, .pointer (some ⟨b52, 0, none⟩)), (13, .int .u64 (0)), (14, .bool (false)), (17, .int .u64 (1)), (18, .bool (true)), (19, .slice ((some ⟨bsp, 0, none⟩)) 2 2), (20, .slice ((some ⟨bsq, 0, none⟩)) 2 2), (21, .slice ((some ⟨bsr, 0, none⟩)) 2 2)] ⟨rfl, rfl, rfl, rfl, rfl, rfl, rfl, rfl, rfl, rfl, trivial⟩ (fun ρn115 => ?_)
          refine cw_seq ?_
          refine cw_seq ?_
          refine cw_region rfl ?_
          refine rl (o_move (v := .slice ((some ⟨bsp, 0, none⟩)) 2 2) rfl ?_) rfl
          refine rl (o_len rfl Tryd.underlying33 ?_) rfl
          refine rl (o_neq rfl rfl ?_) rfl
          refine rl (o_move (v := .bool (false)) rfl ?_) rfl
          refine rl (o_move (v := .slice ((some ⟨bsq, 0, none⟩)) 2 2) rfl ?_) (want_t rfl (rfl))
          refine rl (o_len rfl Tryd.underlying33 ?_) (want_t rfl (rfl))
          refine rl (o_neq rfl rfl ?_) (want_t rfl (rfl))
          refine rl (o_pickF (v := .bool (false)) rfl (rfl) rfl ?_) rfl
          refine rl (o_move (v := .bool (false)) rfl ?_) rfl
          refine rl (o_move (v := .slice ((some ⟨bsr, 0, none⟩)) 2 2) rfl ?_) (want_t rfl (rfl))
          refine rl (o_len rfl Tryd.underlying33 ?_) (want_t rfl (rfl))
          refine rl (o_neq rfl rfl ?_) (want_t rfl (rfl))
          refine rl (o_pickF (v := .bool (false)) rfl (rfl) rfl ?_) rfl
          refine rl_nil ?_
          refine k_tn ?_
          refine cw_norm [(0, .slice a0 s0.length p0), (1, .slice a1 s1.length p1), (12, .pointer (some ⟨b52, 0, none⟩)), (13, .int .u64 (0)), (14, .bool (false)), (17, .int .u64 (1)), (18, .bool (true)), (19, .slice ((some ⟨bsp, 0, none⟩)) 2 2), (20, .slice ((some ⟨bsq, 0, none⟩)) 2 2), (21, .slice ((some ⟨bsr, 0, none⟩)) 2 2), (87, .bool (false))] ⟨rfl, rfl, rfl, rfl, rfl, rfl, rfl, rfl, rfl, rfl, rfl, trivial⟩ (fun ρn116 => ?_)
          refine cw_condF rfl ?_
          refine cw_skip ?_
          refine k_tn ?_
          refine cw_norm [(0, .slice a0 s0.length p0), (1, .slice a1 s1.length p1), (12, .pointer (some ⟨b52, 0, none⟩)), (13, .int .u64 (0)), (14, .bool (false)), (17, .int .u64 (1)), (18, .bool (true)), (19, .slice ((some ⟨bsp, 0, none⟩)) 2 2), (20, .slice ((some ⟨bsq, 0, none⟩)) 2 2), (21, .slice ((some ⟨bsr, 0, none⟩)) 2 2)] ⟨rfl, rfl, rfl, rfl, rfl, rfl, rfl, rfl, rfl, rfl, trivial⟩ (fun ρn117 => ?_)
          have ht_hTr_w34_d1 := hTr_w34.size
          have ht_hTr_w49_d1 := hTr_w49.size
          have ht_hTr_w64_d1 := hTr_w64.size
          have ht_hTr_w79_d1 := hTr_w79.size
          have ht_hTr_w94_d1 := hTr_w94.size
          have ht_hTr_w103_d1 := hTr_w103.size
          have ht_hTr_w112_d1 := hTr_w112.size
          have hl_b1_d1 := hB6.lt
          have hl_b37_d1 := hB42.lt
          have hl_b52_d1 := hB57.lt
          have hl_b67_d1 := hB72.lt
          have hl_b82_d1 := hB87.lt
          have hl_bsp_d1 := hBsp.lt
          have hl_bsq_d1 := hBsq.lt
          have hl_bsr_d1 := hBsr.lt
          refine cw_norm [(0, .slice a0 s0.length p0), (1, .slice a1 s1.length p1), (12, .pointer (some ⟨b52, 0, none⟩)), (13, .int .u64 (0)), (14, .bool (false)), (17, .int .u64 (1)), (18, .bool (true)), (19, .slice ((some ⟨bsp, 0, none⟩)) 2 2), (20, .slice ((some ⟨bsq, 0, none⟩)) 2 2), (21, .slice ((some ⟨bsr, 0, none⟩)) 2 2)] ⟨rfl, rfl, rfl, rfl, rfl, rfl, rfl, rfl, rfl, rfl, trivial⟩ (fun ρr118 => ?_)
          have hsr1 := hK.size
          refine cw_drawnK (fun _ => False) 58 [.val (.pointer (some ⟨b52, 3, none⟩)), .val (.slice aoz 0 cz), .val (.int .i64 (0)), .val (.bool (true)), .val (.bool (true)), .val (.int .u64 (0)), .val (.bool (true)), .val (.bool (true)), .val (.bool (true)), .val (.bool (false)), .val (.bool (true)), .val (.bool (true)), .val (.bool (true)), .val (.int .u64 (1)), .val (.bool (true)), .val (.bool (true)), .val (.bool (true)), .val (.bool (true)), .val (.bool (true)), .val (.bool (true)), .val (.slice ((some ⟨bsp, 0, none⟩)) 2 2), .val (.pointer (some ⟨bsp, 0, none⟩)), .val (.slice as0p s0.length cs0p), .val (.string (strOf s0)), .val (.slice a0 s0.length p0), .val (.string (strOf s0)), .val (.bool (true)), .val (.bool (true)), .val (.bool (true)), .val (.slice ((some ⟨bsq, 0, none⟩)) 2 2), .val (.pointer (some ⟨bsq, 1, none⟩)), .val (.slice as1q X1.length cs1q), .val (.string (strOf X1)), .val (.slice ((some ⟨bsp, 0, none⟩)) 2 2), .val (.pointer (some ⟨bsp, 1, none⟩)), .val (.slice as1p X1.length cs1p), .val (.string (strOf X1)), .val (.bool (true)), .val (.bool (true)), .val (.bool (true)), .val (.slice ((some ⟨bsr, 0, none⟩)) 2 2), .val (.pointer (some ⟨bsr, 0, none⟩)), .val (.slice as0r s0.length cs0r), .val (.string (strOf s0)), .val (.slice a0 s0.length p0), .val (.string (strOf s0)), .val (.bool (true)), .val (.bool (true)), .val (.bool (true)), .val (.slice ((some ⟨bsr, 0, none⟩)) 2 2), .val (.pointer (some ⟨bsr, 1, none⟩)), .val (.slice as1r s1.length cs1r), .val (.string (strOf s1)), .val (.slice a1 s1.length p1), .val (.string (strOf s1))] [.val (.pointer (some ⟨b52, 3, none⟩)), .val (.slice aoz 0 cz), .val (.int .i64 (0)), .val (.bool (true)), .val (.bool (true)), .val (.int .u64 (0)), .val (.bool (true)), .val (.bool (true)), .val (.bool (true)), .val (.bool (false)), .val (.bool (true)), .val (.bool (true)), .val (.bool (true)), .val (.int .u64 (1)), .val (.bool (true)), .val (.bool (true)), .val (.bool (true)), .val (.bool (true)), .val (.bool (true)), .val (.bool (true)), .val (.slice ((some ⟨bsp, 0, none⟩)) 2 2), .val (.pointer (some ⟨bsp, 0, none⟩)), .val (.slice as0p s0.length cs0p), .val (.string (strOf s0)), .val (.slice a0 s0.length p0), .val (.string (strOf s0)), .val (.bool (true)), .val (.bool (true)), .val (.bool (true)), .val (.slice ((some ⟨bsq, 0, none⟩)) 2 2), .val (.pointer (some ⟨bsq, 1, none⟩)), .val (.slice as1q X1.length cs1q), .val (.string (strOf X1)), .val (.slice ((some ⟨bsp, 0, none⟩)) 2 2), .val (.pointer (some ⟨bsp, 1, none⟩)), .val (.slice as1p X1.length cs1p), .val (.string (strOf X1)), .val (.bool (true)), .val (.bool (true)), .val (.bool (true)), .val (.slice ((some ⟨bsr, 0, none⟩)) 2 2), .val (.pointer (some ⟨bsr, 0, none⟩)), .val (.slice as0r s0.length cs0r), .val (.string (strOf s0)), .val (.slice a0 s0.length p0), .val (.string (strOf s0)), .val (.bool (true)), .val (.bool (true)), .val (.bool (true)), .val (.slice ((some ⟨bsr, 0, none⟩)) 2 2), .val (.pointer (some ⟨bsr, 1, none⟩)), .val (.slice as1r s1.length cs1r), .val (.string (strOf s1)), .val (.slice a1 s1.length p1), .val (.string (strOf s1))] [[], [0], [0, 1], [0, 1, 2], [0, 1, 2, 3], [0, 1, 2, 3, 4], [0, 1, 2, 3, 4, 5], [0, 1, 2, 3, 4, 5, 6], [0, 1, 2, 3, 4, 5, 6, 7], [0, 1, 2, 3, 4, 5, 6, 7, 8], [0, 1, 2, 3, 4, 5, 6, 7, 8, 9], [0, 1, 2, 3, 4, 5, 6, 7, 8, 9, 10], [0, 1, 2, 3, 4, 5, 6, 7, 8, 9, 10, 11], [0, 1, 2, 3, 4, 5, 6, 7, 8, 9, 10, 11, 12], [0, 1, 2, 3, 4, 5, 6, 7, 8, 9, 10, 11, 12, 13], [0, 1, 2, 3, 4, 5, 6, 7, 8, 9, 10, 11, 12, 13, 14], [0, 1, 2, 3, 4, 5, 6, 7, 8, 9, 10, 11, 12, 13, 14, 15], [0, 1, 2, 3, 4, 5, 6, 7, 8, 9, 10, 11, 12, 13, 14, 15, 16], [0, 1, 2, 3, 4, 5, 6, 7, 8, 9, 10, 11, 12, 13, 14, 15, 16, 17], [0, 1, 2, 3, 4, 5, 6, 7, 8, 9, 10, 11, 12, 13, 14, 15, 16, 17, 18], [0, 1, 2, 3, 4, 5, 6, 7, 8, 9, 10, 11, 12, 13, 14, 15, 16, 17, 18, 19], [0, 1, 2, 3, 4, 5, 6, 7, 8, 9, 10, 11, 12, 13, 14, 15, 16, 17, 18, 19, 20], [0, 1, 2, 3, 4, 5, 6, 7, 8, 9, 10, 11, 12, 13, 14, 15, 16, 17, 18, 19, 20, 21], [0, 1, 2, 3, 4, 5, 6, 7, 8, 9, 10, 11, 12, 13, 14, 15, 16, 17, 18, 19, 20, 21, 22], [0, 1, 2, 3, 4, 5, 6, 7, 8, 9, 10, 11, 12, 13, 14, 15, 16, 17, 18, 19], [0, 1, 2, 3, 4, 5, 6, 7, 8, 9, 10, 11, 12, 13, 14, 15, 16, 17, 18, 19, 24], [0, 1, 2, 3, 4, 5, 6, 7, 8, 9, 10, 11, 12, 13, 14, 15, 16, 17, 18, 19, 20, 21, 22, 23, 24, 25], [0, 1, 2, 3, 4, 5, 6, 7, 8, 9, 10, 11, 12, 13, 14, 15, 16, 17, 18, 19, 20, 21, 22, 23, 24, 25, 26], [0, 1, 2, 3, 4, 5, 6, 7, 8, 9, 10, 11, 12, 13, 14, 15, 16, 17, 18, 19, 20, 21, 22, 23, 24, 25, 26, 27], [0, 1, 2, 3, 4, 5, 6, 7, 8, 9, 10, 11, 12, 13, 14, 15, 16, 17, 18, 19, 20, 21, 22, 23, 24, 25, 26, 27, 28], [0, 1, 2, 3, 4, 5, 6, 7, 8, 9, 10, 11, 12, 13, 14, 15, 16, 17, 18, 19, 20, 21, 22, 23, 24, 25, 26, 27, 28, 29], [0, 1, 2, 3, 4, 5, 6, 7, 8, 9, 10, 11, 12, 13, 14, 15, 16, 17, 18, 19, 20, 21, 22, 23, 24, 25, 26, 27, 28, 29, 30], [0, 1, 2, 3, 4, 5, 6, 7, 8, 9, 10, 11, 12, 13, 14, 15, 16, 17, 18, 19, 20, 21, 22, 23, 24, 25, 26, 27, 28, 29, 30, 31], [0, 1, 2, 3, 4, 5, 6, 7, 8, 9, 10, 11, 12, 13, 14, 15, 16, 17, 18, 19, 20, 21, 22, 23, 24, 25, 26, 27, 28], [0, 1, 2, 3, 4, 5, 6, 7, 8, 9, 10, 11, 12, 13, 14, 15, 16, 17, 18, 19, 20, 21, 22, 23, 24, 25, 26, 27, 28, 33], [0, 1, 2, 3, 4, 5, 6, 7, 8, 9, 10, 11, 12, 13, 14, 15, 16, 17, 18, 19, 20, 21, 22, 23, 24, 25, 26, 27, 28, 33, 34], [0, 1, 2, 3, 4, 5, 6, 7, 8, 9, 10, 11, 12, 13, 14, 15, 16, 17, 18, 19, 20, 21, 22, 23, 24, 25, 26, 27, 28, 33, 34, 35], [0, 1, 2, 3, 4, 5, 6, 7, 8, 9, 10, 11, 12, 13, 14, 15, 16, 17, 18, 19, 20, 21, 22, 23, 24, 25, 26, 27, 28, 29, 30, 31, 32, 33, 34, 35, 36], [0, 1, 2, 3, 4, 5, 6, 7, 8, 9, 10, 11, 12, 13, 14, 15, 16, 17, 18, 19, 20, 21, 22, 23, 24, 25, 26, 27, 28, 29, 30, 31, 32, 33, 34, 35, 36, 37], [0, 1, 2, 3, 4, 5, 6, 7, 8, 9, 10, 11, 12, 13, 14, 15, 16, 17, 18, 19, 20, 21, 22, 23, 24, 25, 26, 27, 28, 29, 30, 31, 32, 33, 34, 35, 36, 37, 38], [0, 1, 2, 3, 4, 5, 6, 7, 8, 9, 10, 11, 12, 13, 14, 15, 16, 17, 18, 19, 20, 21, 22, 23, 24, 25, 26, 27, 28, 29, 30, 31, 32, 33, 34, 35, 36, 37, 38, 39], [0, 1, 2, 3, 4, 5, 6, 7, 8, 9, 10, 11, 12, 13, 14, 15, 16, 17, 18, 19, 20, 21, 22, 23, 24, 25, 26, 27, 28, 29, 30, 31, 32, 33, 34, 35, 36, 37, 38, 39, 40], [0, 1, 2, 3, 4, 5, 6, 7, 8, 9, 10, 11, 12, 13, 14, 15, 16, 17, 18, 19, 20, 21, 22, 23, 24, 25, 26, 27, 28, 29, 30, 31, 32, 33, 34, 35, 36, 37, 38, 39, 40, 41], [0, 1, 2, 3, 4, 5, 6, 7, 8, 9, 10, 11, 12, 13, 14, 15, 16, 17, 18, 19, 20, 21, 22, 23, 24, 25, 26, 27, 28, 29, 30, 31, 32, 33, 34, 35, 36, 37, 38, 39, 40, 41, 42], [0, 1, 2, 3, 4, 5, 6, 7, 8, 9, 10, 11, 12, 13, 14, 15, 16, 17, 18, 19, 20, 21, 22, 23, 24, 25, 26, 27, 28, 29, 30, 31, 32, 33, 34, 35, 36, 37, 38, 39], [0, 1, 2, 3, 4, 5, 6, 7, 8, 9, 10, 11, 12, 13, 14, 15, 16, 17, 18, 19, 20, 21, 22, 23, 24, 25, 26, 27, 28, 29, 30, 31, 32, 33, 34, 35, 36, 37, 38, 39, 44], [0, 1, 2, 3, 4, 5, 6, 7, 8, 9, 10, 11, 12, 13, 14, 15, 16, 17, 18, 19, 20, 21, 22, 23, 24, 25, 26, 27, 28, 29, 30, 31, 32, 33, 34, 35, 36, 37, 38, 39, 40, 41, 42, 43, 44, 45], [0, 1, 2, 3, 4, 5, 6, 7, 8, 9, 10, 11, 12, 13, 14, 15, 16, 17, 18, 19, 20, 21, 22, 23, 24, 25, 26, 27, 28, 29, 30, 31, 32, 33, 34, 35, 36, 37, 38, 39, 40, 41, 42, 43, 44, 45, 46], [0, 1, 2, 3, 4, 5, 6, 7, 8, 9, 10, 11, 12, 13, 14, 15, 16, 17, 18, 19, 20, 21, 22, 23, 24, 25, 26, 27, 28, 29, 30, 31, 32, 33, 34, 35, 36, 37, 38, 39, 40, 41, 42, 43, 44, 45, 46, 47], [0, 1, 2, 3, 4, 5, 6, 7, 8, 9, 10, 11, 12, 13, 14, 15, 16, 17, 18, 19, 20, 21, 22, 23, 24, 25, 26, 27, 28, 29, 30, 31, 32, 33, 34, 35, 36, 37, 38, 39, 40, 41, 42, 43, 44, 45, 46, 47, 48], [0, 1, 2, 3, 4, 5, 6, 7, 8, 9, 10, 11, 12, 13, 14, 15, 16, 17, 18, 19, 20, 21, 22, 23, 24, 25, 26, 27, 28, 29, 30, 31, 32, 33, 34, 35, 36, 37, 38, 39, 40, 41, 42, 43, 44, 45, 46, 47, 48, 49], [0, 1, 2, 3, 4, 5, 6, 7, 8, 9, 10, 11, 12, 13, 14, 15, 16, 17, 18, 19, 20, 21, 22, 23, 24, 25, 26, 27, 28, 29, 30, 31, 32, 33, 34, 35, 36, 37, 38, 39, 40, 41, 42, 43, 44, 45, 46, 47, 48, 49, 50], [0, 1, 2, 3, 4, 5, 6, 7, 8, 9, 10, 11, 12, 13, 14, 15, 16, 17, 18, 19, 20, 21, 22, 23, 24, 25, 26, 27, 28, 29, 30, 31, 32, 33, 34, 35, 36, 37, 38, 39, 40, 41, 42, 43, 44, 45, 46, 47, 48, 49, 50, 51], [0, 1, 2, 3, 4, 5, 6, 7, 8, 9, 10, 11, 12, 13, 14, 15, 16, 17, 18, 19, 20, 21, 22, 23, 24, 25, 26, 27, 28, 29, 30, 31, 32, 33, 34, 35, 36, 37, 38, 39, 40, 41, 42, 43, 44, 45, 46, 47, 48], [0, 1, 2, 3, 4, 5, 6, 7, 8, 9, 10, 11, 12, 13, 14, 15, 16, 17, 18, 19, 20, 21, 22, 23, 24, 25, 26, 27, 28, 29, 30, 31, 32, 33, 34, 35, 36, 37, 38, 39, 40, 41, 42, 43, 44, 45, 46, 47, 48, 53], [0, 1, 2, 3, 4, 5, 6, 7, 8, 9, 10, 11, 12, 13, 14, 15, 16, 17, 18, 19, 20, 21, 22, 23, 24, 25, 26, 27, 28, 29, 30, 31, 32, 33, 34, 35, 36, 37, 38, 39, 40, 41, 42, 43, 44, 45, 46, 47, 48, 49, 50, 51, 52, 53, 54], [0, 1, 2, 3, 4, 5, 6, 7, 8, 9, 10, 11, 12, 13, 14, 15, 16, 17, 18, 19, 20, 21, 22, 23, 24, 25, 26, 27, 28, 29, 30, 31, 32, 33, 34, 35, 36, 37, 38, 39, 40, 41, 42, 43, 44, 45, 46, 47, 48, 49, 50, 51, 52, 53, 54, 55], [0, 1, 2, 3, 4, 5, 6, 7, 8, 9, 10, 11, 12, 13, 14, 15, 16, 17, 18, 19, 20, 21, 22, 23, 24, 25, 26, 27, 28, 29, 30, 31, 32, 33, 34, 35, 36, 37, 38, 39, 40, 41, 42, 43, 44, 45, 46, 47, 48, 49, 50, 51, 52, 53, 54, 55, 56]] 55 mixed (by kernel_rfl) ⟨upK_val, upK_val, upK_val, upK_val, upK_val, upK_val, upK_val, upK_val, upK_val, upK_val, upK_val, upK_val, upK_val, upK_val, upK_val, upK_val, upK_val, upK_val, upK_val, upK_val, upK_val, upK_val, upK_val, upK_val, upK_val, upK_val, upK_val, upK_val, upK_val, upK_val, upK_val, upK_val, upK_val, upK_val, upK_val, upK_val, upK_val, upK_val, upK_val, upK_val, upK_val, upK_val, upK_val, upK_val, upK_val, upK_val, upK_val, upK_val, upK_val, upK_val, upK_val, upK_val, upK_val, upK_val, upK_val, trivial⟩ ⟨⟨⟨⟨⟨⟨⟨⟨⟨⟨⟨⟨⟨⟨⟨⟨⟨⟨⟨⟨⟨⟨⟨⟨⟨⟨⟨⟨⟨⟨⟨⟨⟨⟨⟨⟨⟨⟨⟨⟨⟨⟨⟨⟨⟨⟨⟨⟨⟨⟨⟨⟨⟨⟨⟨trivial, ?_⟩, ?_⟩, ?_⟩, ?_⟩, ?_⟩, ?_⟩, ?_⟩, ?_⟩, ?_⟩, ?_⟩, ?_⟩, ?_⟩, ?_⟩, ?_⟩, ?_⟩, ?_⟩, ?_⟩, ?_⟩, ?_⟩, ?_⟩, ?_⟩, ?_⟩, ?_⟩, ?_⟩, ?_⟩, ?_⟩, ?_⟩, ?_⟩, ?_⟩, ?_⟩, ?_⟩, ?_⟩, ?_⟩, ?_⟩, ?_⟩, ?_⟩, ?_⟩, ?_⟩, ?_⟩, ?_⟩, ?_⟩, ?_⟩, ?_⟩, ?_⟩, ?_⟩, ?_⟩, ?_⟩, ?_⟩, ?_⟩, ?_⟩, ?_⟩, ?_⟩, ?_⟩, ?_⟩, ?_⟩ (fun w119 vs120 lo121 hi122 hE123 hkn124 hap125 => ?_)
          · refine oblK_post rfl rfl (fun w119k vs lo hi hE hkn hap => ?_)
            have hEs := hE.size
            replace hK := hK.trans (Kp.ext hE)
            replace hB6 := hB6.ext hE
            replace hB42 := hB42.ext hE
            replace hB57 := hB57.ext hE
            replace hB72 := hB72.ext hE
            replace hB87 := hB87.ext hE
            replace hBsp := hBsp.ext hE
            replace hBsq := hBsq.ext hE
            replace hBsr := hBsr.ext hE
            replace hT := hT.ext hE
            replace hR0 := hR0.ext hE
            replace hR1 := hR1.ext hE
            replace hR := hR.ext hE
            replace hF0f := hF0f.ext hE
            replace hF1f := hF1f.ext hE
            replace hTr_w34 := hTr_w34.trans (Kp.ext hE)
            replace hLz := hLz.ext hE
            replace hTr_w49 := hTr_w49.trans (Kp.ext hE)
            replace hP := hP.ext hE
            replace hTr_w64 := hTr_w64.trans (Kp.ext hE)
            replace hLy := hLy.ext hE
            replace hTr_w79 := hTr_w79.trans (Kp.ext hE)
            replace hS0p := hS0p.ext hE
            replace hS1p := hS1p.ext hE
            replace hTr_w94 := hTr_w94.trans (Kp.ext hE)
            replace hS0q := hS0q.ext hE
            replace hS1q := hS1q.ext hE
            replace hTr_w103 := hTr_w103.trans (Kp.ext hE)
            replace hS0r := hS0r.ext hE
            replace hS1r := hS1r.ext hE
            replace hTr_w112 := hTr_w112.trans (Kp.ext hE)
            refine oblK_n rfl ?_
            refine opk_norm [(12, .pointer (some ⟨b52, 0, none⟩))] ⟨rfl, trivial⟩ (fun ρq => ?_)
            refine o_field rfl fa32_3 ?_
            exact ⟨Kp.refl _ _, rfl⟩
          · refine oblK_post rfl rfl (fun w119k vs lo hi hE hkn hap => ?_)
            have hEs := hE.size
            replace hK := hK.trans (Kp.ext hE)
            replace hB6 := hB6.ext hE
            replace hB42 := hB42.ext hE
            replace hB57 := hB57.ext hE
            replace hB72 := hB72.ext hE
            replace hB87 := hB87.ext hE
            replace hBsp := hBsp.ext hE
            replace hBsq := hBsq.ext hE
            replace hBsr := hBsr.ext hE
            replace hT := hT.ext hE
            replace hR0 := hR0.ext hE
            replace hR1 := hR1.ext hE
            replace hR := hR.ext hE
            replace hF0f := hF0f.ext hE
            replace hF1f := hF1f.ext hE
            replace hTr_w34 := hTr_w34.trans (Kp.ext hE)
            replace hLz := hLz.ext hE
            replace hTr_w49 := hTr_w49.trans (Kp.ext hE)
            replace hP := hP.ext hE
            replace hTr_w64 := hTr_w64.trans (Kp.ext hE)
            replace hLy := hLy.ext hE
            replace hTr_w79 := hTr_w79.trans (Kp.ext hE)
            replace hS0p := hS0p.ext hE
            replace hS1p := hS1p.ext hE
            replace hTr_w94 := hTr_w94.trans (Kp.ext hE)
            replace hS0q := hS0q.ext hE
            replace hS1q := hS1q.ext hE
            replace hTr_w103 := hTr_w103.trans (Kp.ext hE)
            replace hS0r := hS0r.ext hE
            replace hS1r := hS1r.ext hE
            replace hTr_w112 := hTr_w112.trans (Kp.ext hE)
            refine oblK_n rfl ?_
            refine opk_norm [(88, .pointer (some ⟨b52, 3, none⟩))] ⟨rfl, trivial⟩ (fun ρq => ?_)
            refine o_loadB (v := .slice aoz 0 cz) rfl hB57 tyS30 rfl ?_
            exact ⟨Kp.refl _ _, rfl⟩
          · refine oblK_post rfl rfl (fun w119k vs lo hi hE hkn hap => ?_)
            have hEs := hE.size
            replace hK := hK.trans (Kp.ext hE)
            replace hB6 := hB6.ext hE
            replace hB42 := hB42.ext hE
            replace hB57 := hB57.ext hE
            replace hB72 := hB72.ext hE
            replace hB87 := hB87.ext hE
            replace hBsp := hBsp.ext hE
            replace hBsq := hBsq.ext hE
            replace hBsr := hBsr.ext hE
            replace hT := hT.ext hE
            replace hR0 := hR0.ext hE
            replace hR1 := hR1.ext hE
            replace hR := hR.ext hE
            replace hF0f := hF0f.ext hE
            replace hF1f := hF1f.ext hE
            replace hTr_w34 := hTr_w34.trans (Kp.ext hE)
            replace hLz := hLz.ext hE
            replace hTr_w49 := hTr_w49.trans (Kp.ext hE)
            replace hP := hP.ext hE
            replace hTr_w64 := hTr_w64.trans (Kp.ext hE)
            replace hLy := hLy.ext hE
            replace hTr_w79 := hTr_w79.trans (Kp.ext hE)
            replace hS0p := hS0p.ext hE
            replace hS1p := hS1p.ext hE
            replace hTr_w94 := hTr_w94.trans (Kp.ext hE)
            replace hS0q := hS0q.ext hE
            replace hS1q := hS1q.ext hE
            replace hTr_w103 := hTr_w103.trans (Kp.ext hE)
            replace hS0r := hS0r.ext hE
            replace hS1r := hS1r.ext hE
            replace hTr_w112 := hTr_w112.trans (Kp.ext hE)
            refine oblK_n rfl ?_
            refine opk_norm [(89, .slice aoz 0 cz)] ⟨rfl, trivial⟩ (fun ρq => ?_)
            refine o_len rfl Tryd.underlying30 ?_
            exact ⟨Kp.refl _ _, rfl⟩
          · refine oblK_post rfl rfl (fun w119k vs lo hi hE hkn hap => ?_)
            have hEs := hE.size
            replace hK := hK.trans (Kp.ext hE)
            replace hB6 := hB6.ext hE
            replace hB42 := hB42.ext hE
            replace hB57 := hB57.ext hE
            replace hB72 := hB72.ext hE
            replace hB87 := hB87.ext hE
            replace hBsp := hBsp.ext hE
            replace hBsq := hBsq.ext hE
            replace hBsr := hBsr.ext hE
            replace hT := hT.ext hE
            replace hR0 := hR0.ext hE
            replace hR1 := hR1.ext hE
            replace hR := hR.ext hE
            replace hF0f := hF0f.ext hE
            replace hF1f := hF1f.ext hE
            replace hTr_w34 := hTr_w34.trans (Kp.ext hE)
            replace hLz := hLz.ext hE
            replace hTr_w49 := hTr_w49.trans (Kp.ext hE)
            replace hP := hP.ext hE
            replace hTr_w64 := hTr_w64.trans (Kp.ext hE)
            replace hLy := hLy.ext hE
            replace hTr_w79 := hTr_w79.trans (Kp.ext hE)
            replace hS0p := hS0p.ext hE
            replace hS1p := hS1p.ext hE
            replace hTr_w94 := hTr_w94.trans (Kp.ext hE)
            replace hS0q := hS0q.ext hE
            replace hS1q := hS1q.ext hE
            replace hTr_w103 := hTr_w103.trans (Kp.ext hE)
            replace hS0r := hS0r.ext hE
            replace hS1r := hS1r.ext hE
            replace hTr_w112 := hTr_w112.trans (Kp.ext hE)
            refine oblK_n rfl ?_
            refine opk_norm [(90, .int .i64 (0))] ⟨rfl, trivial⟩ (fun ρq => ?_)
            refine o_eql rfl rfl ?_
            exact ⟨Kp.refl _ _, rfl⟩
          · refine oblK_post rfl rfl (fun w119k vs lo hi hE hkn hap => ?_)
            have hEs := hE.size
            replace hK := hK.trans (Kp.ext hE)
            replace hB6 := hB6.ext hE
            replace hB42 := hB42.ext hE
            replace hB57 := hB57.ext hE
            replace hB72 := hB72.ext hE
            replace hB87 := hB87.ext hE
            replace hBsp := hBsp.ext hE
            replace hBsq := hBsq.ext hE
            replace hBsr := hBsr.ext hE
            replace hT := hT.ext hE
            replace hR0 := hR0.ext hE
            replace hR1 := hR1.ext hE
            replace hR := hR.ext hE
            replace hF0f := hF0f.ext hE
            replace hF1f := hF1f.ext hE
            replace hTr_w34 := hTr_w34.trans (Kp.ext hE)
            replace hLz := hLz.ext hE
            replace hTr_w49 := hTr_w49.trans (Kp.ext hE)
            replace hP := hP.ext hE
            replace hTr_w64 := hTr_w64.trans (Kp.ext hE)
            replace hLy := hLy.ext hE
            replace hTr_w79 := hTr_w79.trans (Kp.ext hE)
            replace hS0p := hS0p.ext hE
            replace hS1p := hS1p.ext hE
            replace hTr_w94 := hTr_w94.trans (Kp.ext hE)
            replace hS0q := hS0q.ext hE
            replace hS1q := hS1q.ext hE
            replace hTr_w103 := hTr_w103.trans (Kp.ext hE)
            replace hS0r := hS0r.ext hE
            replace hS1r := hS1r.ext hE
            replace hTr_w112 := hTr_w112.trans (Kp.ext hE)
            refine oblK_n rfl ?_
            refine opk_norm [(91, .bool (true))] ⟨rfl, trivial⟩ (fun ρq => ?_)
            refine o_move (v := .bool (true)) rfl ?_
            exact ⟨Kp.refl _ _, rfl⟩
          · refine oblK_post rfl rfl (fun w119k vs lo hi hE hkn hap => ?_)
            have hEs := hE.size
            replace hK := hK.trans (Kp.ext hE)
            replace hB6 := hB6.ext hE
            replace hB42 := hB42.ext hE
            replace hB57 := hB57.ext hE
            replace hB72 := hB72.ext hE
            replace hB87 := hB87.ext hE
            replace hBsp := hBsp.ext hE
            replace hBsq := hBsq.ext hE
            replace hBsr := hBsr.ext hE
            replace hT := hT.ext hE
            replace hR0 := hR0.ext hE
            replace hR1 := hR1.ext hE
            replace hR := hR.ext hE
            replace hF0f := hF0f.ext hE
            replace hF1f := hF1f.ext hE
            replace hTr_w34 := hTr_w34.trans (Kp.ext hE)
            replace hLz := hLz.ext hE
            replace hTr_w49 := hTr_w49.trans (Kp.ext hE)
            replace hP := hP.ext hE
            replace hTr_w64 := hTr_w64.trans (Kp.ext hE)
            replace hLy := hLy.ext hE
            replace hTr_w79 := hTr_w79.trans (Kp.ext hE)
            replace hS0p := hS0p.ext hE
            replace hS1p := hS1p.ext hE
            replace hTr_w94 := hTr_w94.trans (Kp.ext hE)
            replace hS0q := hS0q.ext hE
            replace hS1q := hS1q.ext hE
            replace hTr_w103 := hTr_w103.trans (Kp.ext hE)
            replace hS0r := hS0r.ext hE
            replace hS1r := hS1r.ext hE
            replace hTr_w112 := hTr_w112.trans (Kp.ext hE)
            refine oblK_n (want_t rfl (rfl)) ?_
            refine opk_norm [(13, .int .u64 (0)), (92, .bool (true))] ⟨rfl, rfl, trivial⟩ (fun ρq => ?_)
            refine o_move (v := .int .u64 (0)) rfl ?_
            exact ⟨Kp.refl _ _, rfl⟩
          · refine oblK_post rfl rfl (fun w119k vs lo hi hE hkn hap => ?_)
            have hEs := hE.size
            replace hK := hK.trans (Kp.ext hE)
            replace hB6 := hB6.ext hE
            replace hB42 := hB42.ext hE
            replace hB57 := hB57.ext hE
            replace hB72 := hB72.ext hE
            replace hB87 := hB87.ext hE
            replace hBsp := hBsp.ext hE
            replace hBsq := hBsq.ext hE
            replace hBsr := hBsr.ext hE
            replace hT := hT.ext hE
            replace hR0 := hR0.ext hE
            replace hR1 := hR1.ext hE
            replace hR := hR.ext hE
            replace hF0f := hF0f.ext hE
            replace hF1f := hF1f.ext hE
            replace hTr_w34 := hTr_w34.trans (Kp.ext hE)
            replace hLz := hLz.ext hE
            replace hTr_w49 := hTr_w49.trans (Kp.ext hE)
            replace hP := hP.ext hE
            replace hTr_w64 := hTr_w64.trans (Kp.ext hE)
            replace hLy := hLy.ext hE
            replace hTr_w79 := hTr_w79.trans (Kp.ext hE)
            replace hS0p := hS0p.ext hE
            replace hS1p := hS1p.ext hE
            replace hTr_w94 := hTr_w94.trans (Kp.ext hE)
            replace hS0q := hS0q.ext hE
            replace hS1q := hS1q.ext hE
            replace hTr_w103 := hTr_w103.trans (Kp.ext hE)
            replace hS0r := hS0r.ext hE
            replace hS1r := hS1r.ext hE
            replace hTr_w112 := hTr_w112.trans (Kp.ext hE)
            refine oblK_n (want_t rfl (rfl)) ?_
            refine opk_norm [(92, .bool (true)), (93, .int .u64 (0))] ⟨rfl, rfl, trivial⟩ (fun ρq => ?_)
            refine o_eql rfl rfl ?_
            exact ⟨Kp.refl _ _, rfl⟩
          · refine oblK_post rfl rfl (fun w119k vs lo hi hE hkn hap => ?_)
            have hEs := hE.size
            replace hK := hK.trans (Kp.ext hE)
            replace hB6 := hB6.ext hE
            replace hB42 := hB42.ext hE
            replace hB57 := hB57.ext hE
            replace hB72 := hB72.ext hE
            replace hB87 := hB87.ext hE
            replace hBsp := hBsp.ext hE
            replace hBsq := hBsq.ext hE
            replace hBsr := hBsr.ext hE
            replace hT := hT.ext hE
            replace hR0 := hR0.ext hE
            replace hR1 := hR1.ext hE
            replace hR := hR.ext hE
            replace hF0f := hF0f.ext hE
            replace hF1f := hF1f.ext hE
            replace hTr_w34 := hTr_w34.trans (Kp.ext hE)
            replace hLz := hLz.ext hE
            replace hTr_w49 := hTr_w49.trans (Kp.ext hE)
            replace hP := hP.ext hE
            replace hTr_w64 := hTr_w64.trans (Kp.ext hE)
            replace hLy := hLy.ext hE
            replace hTr_w79 := hTr_w79.trans (Kp.ext hE)
            replace hS0p := hS0p.ext hE
            replace hS1p := hS1p.ext hE
            replace hTr_w94 := hTr_w94.trans (Kp.ext hE)
            replace hS0q := hS0q.ext hE
            replace hS1q := hS1q.ext hE
            replace hTr_w103 := hTr_w103.trans (Kp.ext hE)
            replace hS0r := hS0r.ext hE
            replace hS1r := hS1r.ext hE
            replace hTr_w112 := hTr_w112.trans (Kp.ext hE)
            refine oblK_n rfl ?_
            refine opk_norm [(92, .bool (true)), (94, .bool (true))] ⟨rfl, rfl, trivial⟩ (fun ρq => ?_)
            refine o_pickT (v := .bool (true)) rfl (rfl) rfl ?_
            exact ⟨Kp.refl _ _, rfl⟩
          · refine oblK_post rfl rfl (fun w119k vs lo hi hE hkn hap => ?_)
            have hEs := hE.size
            replace hK := hK.trans (Kp.ext hE)
            replace hB6 := hB6.ext hE
            replace hB42 := hB42.ext hE
            replace hB57 := hB57.ext hE
            replace hB72 := hB72.ext hE
            replace hB87 := hB87.ext hE
            replace hBsp := hBsp.ext hE
            replace hBsq := hBsq.ext hE
            replace hBsr := hBsr.ext hE
            replace hT := hT.ext hE
            replace hR0 := hR0.ext hE
            replace hR1 := hR1.ext hE
            replace hR := hR.ext hE
            replace hF0f := hF0f.ext hE
            replace hF1f := hF1f.ext hE
            replace hTr_w34 := hTr_w34.trans (Kp.ext hE)
            replace hLz := hLz.ext hE
            replace hTr_w49 := hTr_w49.trans (Kp.ext hE)
            replace hP := hP.ext hE
            replace hTr_w64 := hTr_w64.trans (Kp.ext hE)
            replace hLy := hLy.ext hE
            replace hTr_w79 := hTr_w79.trans (Kp.ext hE)
            replace hS0p := hS0p.ext hE
            replace hS1p := hS1p.ext hE
            replace hTr_w94 := hTr_w94.trans (Kp.ext hE)
            replace hS0q := hS0q.ext hE
            replace hS1q := hS1q.ext hE
            replace hTr_w103 := hTr_w103.trans (Kp.ext hE)
            replace hS0r := hS0r.ext hE
            replace hS1r := hS1r.ext hE
            replace hTr_w112 := hTr_w112.trans (Kp.ext hE)
            refine oblK_n rfl ?_
            refine opk_norm [(95, .bool (true))] ⟨rfl, trivial⟩ (fun ρq => ?_)
            refine o_move (v := .bool (true)) rfl ?_
            exact ⟨Kp.refl _ _, rfl⟩
          · refine oblK_post rfl rfl (fun w119k vs lo hi hE hkn hap => ?_)
            have hEs := hE.size
            replace hK := hK.trans (Kp.ext hE)
            replace hB6 := hB6.ext hE
            replace hB42 := hB42.ext hE
            replace hB57 := hB57.ext hE
            replace hB72 := hB72.ext hE
            replace hB87 := hB87.ext hE
            replace hBsp := hBsp.ext hE
            replace hBsq := hBsq.ext hE
            replace hBsr := hBsr.ext hE
            replace hT := hT.ext hE
            replace hR0 := hR0.ext hE
            replace hR1 := hR1.ext hE
            replace hR := hR.ext hE
            replace hF0f := hF0f.ext hE
            replace hF1f := hF1f.ext hE
            replace hTr_w34 := hTr_w34.trans (Kp.ext hE)
            replace hLz := hLz.ext hE
            replace hTr_w49 := hTr_w49.trans (Kp.ext hE)
            replace hP := hP.ext hE
            replace hTr_w64 := hTr_w64.trans (Kp.ext hE)
            replace hLy := hLy.ext hE
            replace hTr_w79 := hTr_w79.trans (Kp.ext hE)
            replace hS0p := hS0p.ext hE
            replace hS1p := hS1p.ext hE
            replace hTr_w94 := hTr_w94.trans (Kp.ext hE)
            replace hS0q := hS0q.ext hE
            replace hS1q := hS1q.ext hE
            replace hTr_w103 := hTr_w103.trans (Kp.ext hE)
            replace hS0r := hS0r.ext hE
            replace hS1r := hS1r.ext hE
            replace hTr_w112 := hTr_w112.trans (Kp.ext hE)
            refine oblK_n (want_t rfl (rfl)) ?_
            refine opk_norm [(14, .bool (false)), (96, .bool (true))] ⟨rfl, rfl, trivial⟩ (fun ρq => ?_)
            refine o_move (v := .bool (false)) rfl ?_
            exact ⟨Kp.refl _ _, rfl⟩
          · refine oblK_post rfl rfl (fun w119k vs lo hi hE hkn hap => ?_)
            have hEs := hE.size
            replace hK := hK.trans (Kp.ext hE)
            replace hB6 := hB6.ext hE
            replace hB42 := hB42.ext hE
            replace hB57 := hB57.ext hE
            replace hB72 := hB72.ext hE
            replace hB87 := hB87.ext hE
            replace hBsp := hBsp.ext hE
            replace hBsq := hBsq.ext hE
            replace hBsr := hBsr.ext hE
            replace hT := hT.ext hE
            replace hR0 := hR0.ext hE
            replace hR1 := hR1.ext hE
            replace hR := hR.ext hE
            replace hF0f := hF0f.ext hE
            replace hF1f := hF1f.ext hE
            replace hTr_w34 := hTr_w34.trans (Kp.ext hE)
            replace hLz := hLz.ext hE
            replace hTr_w49 := hTr_w49.trans (Kp.ext hE)
            replace hP := hP.ext hE
            replace hTr_w64 := hTr_w64.trans (Kp.ext hE)
            replace hLy := hLy.ext hE
            replace hTr_w79 := hTr_w79.trans (Kp.ext hE)
            replace hS0p := hS0p.ext hE
            replace hS1p := hS1p.ext hE
            replace hTr_w94 := hTr_w94.trans (Kp.ext hE)
            replace hS0q := hS0q.ext hE
            replace hS1q := hS1q.ext hE
            replace hTr_w103 := hTr_w103.trans (Kp.ext hE)
            replace hS0r := hS0r.ext hE
            replace hS1r := hS1r.ext hE
            replace hTr_w112 := hTr_w112.trans (Kp.ext hE)
            refine oblK_n (want_t rfl (rfl)) ?_
            refine opk_norm [(96, .bool (true)), (97, .bool (false))] ⟨rfl, rfl, trivial⟩ (fun ρq => ?_)
            refine o_not rfl ?_
            exact ⟨Kp.refl _ _, rfl⟩
          · refine oblK_post rfl rfl (fun w119k vs lo hi hE hkn hap => ?_)
            have hEs := hE.size
            replace hK := hK.trans (Kp.ext hE)
            replace hB6 := hB6.ext hE
            replace hB42 := hB42.ext hE
            replace hB57 := hB57.ext hE
            replace hB72 := hB72.ext hE
            replace hB87 := hB87.ext hE
            replace hBsp := hBsp.ext hE
            replace hBsq := hBsq.ext hE
            replace hBsr := hBsr.ext hE
            replace hT := hT.ext hE
            replace hR0 := hR0.ext hE
            replace hR1 := hR1.ext hE
            replace hR := hR.ext hE
            replace hF0f := hF0f.ext hE
            replace hF1f := hF1f.ext hE
            replace hTr_w34 := hTr_w34.trans (Kp.ext hE)
            replace hLz := hLz.ext hE
            replace hTr_w49 := hTr_w49.trans (Kp.ext hE)
            replace hP := hP.ext hE
            replace hTr_w64 := hTr_w64.trans (Kp.ext hE)
            replace hLy := hLy.ext hE
            replace hTr_w79 := hTr_w79.trans (Kp.ext hE)
            replace hS0p := hS0p.ext hE
            replace hS1p := hS1p.ext hE
            replace hTr_w94 := hTr_w94.trans (Kp.ext hE)
            replace hS0q := hS0q.ext hE
            replace hS1q := hS1q.ext hE
            replace hTr_w103 := hTr_w103.trans (Kp.ext hE)
            replace hS0r := hS0r.ext hE
            replace hS1r := hS1r.ext hE
            replace hTr_w112 := hTr_w112.trans (Kp.ext hE)
            refine oblK_n rfl ?_
            refine opk_norm [(96, .bool (true)), (98, .bool (true))] ⟨rfl, rfl, trivial⟩ (fun ρq => ?_)
            refine o_pickT (v := .bool (true)) rfl (rfl) rfl ?_
            exact ⟨Kp.refl _ _, rfl⟩
          · refine oblK_post rfl rfl (fun w119k vs lo hi hE hkn hap => ?_)
            have hEs := hE.size
            replace hK := hK.trans (Kp.ext hE)
            replace hB6 := hB6.ext hE
            replace hB42 := hB42.ext hE
            replace hB57 := hB57.ext hE
            replace hB72 := hB72.ext hE
            replace hB87 := hB87.ext hE
            replace hBsp := hBsp.ext hE
            replace hBsq := hBsq.ext hE
            replace hBsr := hBsr.ext hE
            replace hT := hT.ext hE
            replace hR0 := hR0.ext hE
            replace hR1 := hR1.ext hE
            replace hR := hR.ext hE
            replace hF0f := hF0f.ext hE
            replace hF1f := hF1f.ext hE
            replace hTr_w34 := hTr_w34.trans (Kp.ext hE)
            replace hLz := hLz.ext hE
            replace hTr_w49 := hTr_w49.trans (Kp.ext hE)
            replace hP := hP.ext hE
            replace hTr_w64 := hTr_w64.trans (Kp.ext hE)
            replace hLy := hLy.ext hE
            replace hTr_w79 := hTr_w79.trans (Kp.ext hE)
            replace hS0p := hS0p.ext hE
            replace hS1p := hS1p.ext hE
            replace hTr_w94 := hTr_w94.trans (Kp.ext hE)
            replace hS0q := hS0q.ext hE
            replace hS1q := hS1q.ext hE
            replace hTr_w103 := hTr_w103.trans (Kp.ext hE)
            replace hS0r := hS0r.ext hE
            replace hS1r := hS1r.ext hE
            replace hTr_w112 := hTr_w112.trans (Kp.ext hE)
            refine oblK_n rfl ?_
            refine opk_norm [(99, .bool (true))] ⟨rfl, trivial⟩ (fun ρq => ?_)
            refine o_move (v := .bool (true)) rfl ?_
            exact ⟨Kp.refl _ _, rfl⟩
          · refine oblK_post rfl rfl (fun w119k vs lo hi hE hkn hap => ?_)
            have hEs := hE.size
            replace hK := hK.trans (Kp.ext hE)
            replace hB6 := hB6.ext hE
            replace hB42 := hB42.ext hE
            replace hB57 := hB57.ext hE
            replace hB72 := hB72.ext hE
            replace hB87 := hB87.ext hE
            replace hBsp := hBsp.ext hE
            replace hBsq := hBsq.ext hE
            replace hBsr := hBsr.ext hE
            replace hT := hT.ext hE
            replace hR0 := hR0.ext hE
            replace hR1 := hR1.ext hE
            replace hR := hR.ext hE
            replace hF0f := hF0f.ext hE
            replace hF1f := hF1f.ext hE
            replace hTr_w34 := hTr_w34.trans (Kp.ext hE)
            replace hLz := hLz.ext hE
            replace hTr_w49 := hTr_w49.trans (Kp.ext hE)
            replace hP := hP.ext hE
            replace hTr_w64 := hTr_w64.trans (Kp.ext hE)
            replace hLy := hLy.ext hE
            replace hTr_w79 := hTr_w79.trans (Kp.ext hE)
            replace hS0p := hS0p.ext hE
            replace hS1p := hS1p.ext hE
            replace hTr_w94 := hTr_w94.trans (Kp.ext hE)
            replace hS0q := hS0q.ext hE
            replace hS1q := hS1q.ext hE
            replace hTr_w103 := hTr_w103.trans (Kp.ext hE)
            replace hS0r := hS0r.ext hE
            replace hS1r := hS1r.ext hE
            replace hTr_w112 := hTr_w112.trans (Kp.ext hE)
            refine oblK_n (want_t rfl (rfl)) ?_
            refine opk_norm [(17, .int .u64 (1)), (100, .bool (true))] ⟨rfl, rfl, trivial⟩ (fun ρq => ?_)
            refine o_move (v := .int .u64 (1)) rfl ?_
            exact ⟨Kp.refl _ _, rfl⟩
          · refine oblK_post rfl rfl (fun w119k vs lo hi hE hkn hap => ?_)
            have hEs := hE.size
            replace hK := hK.trans (Kp.ext hE)
            replace hB6 := hB6.ext hE
            replace hB42 := hB42.ext hE
            replace hB57 := hB57.ext hE
            replace hB72 := hB72.ext hE
            replace hB87 := hB87.ext hE
            replace hBsp := hBsp.ext hE
            replace hBsq := hBsq.ext hE
            replace hBsr := hBsr.ext hE
            replace hT := hT.ext hE
            replace hR0 := hR0.ext hE
            replace hR1 := hR1.ext hE
            replace hR := hR.ext hE
            replace hF0f := hF0f.ext hE
            replace hF1f := hF1f.ext hE
            replace hTr_w34 := hTr_w34.trans (Kp.ext hE)
            replace hLz := hLz.ext hE
            replace hTr_w49 := hTr_w49.trans (Kp.ext hE)
            replace hP := hP.ext hE
            replace hTr_w64 := hTr_w64.trans (Kp.ext hE)
            replace hLy := hLy.ext hE
            replace hTr_w79 := hTr_w79.trans (Kp.ext hE)
            replace hS0p := hS0p.ext hE
            replace hS1p := hS1p.ext hE
            replace hTr_w94 := hTr_w94.trans (Kp.ext hE)
            replace hS0q := hS0q.ext hE
            replace hS1q := hS1q.ext hE
            replace hTr_w103 := hTr_w103.trans (Kp.ext hE)
            replace hS0r := hS0r.ext hE
            replace hS1r := hS1r.ext hE
            replace hTr_w112 := hTr_w112.trans (Kp.ext hE)
            refine oblK_n (want_t rfl (rfl)) ?_
            refine opk_norm [(100, .bool (true)), (101, .int .u64 (1))] ⟨rfl, rfl, trivial⟩ (fun ρq => ?_)
            refine o_eql rfl rfl ?_
            exact ⟨Kp.refl _ _, rfl⟩
          · refine oblK_post rfl rfl (fun w119k vs lo hi hE hkn hap => ?_)
            have hEs := hE.size
            replace hK := hK.trans (Kp.ext hE)
            replace hB6 := hB6.ext hE
            replace hB42 := hB42.ext hE
            replace hB57 := hB57.ext hE
            replace hB72 := hB72.ext hE
            replace hB87 := hB87.ext hE
            replace hBsp := hBsp.ext hE
            replace hBsq := hBsq.ext hE
            replace hBsr := hBsr.ext hE
            replace hT := hT.ext hE
            replace hR0 := hR0.ext hE
            replace hR1 := hR1.ext hE
            replace hR := hR.ext hE
            replace hF0f := hF0f.ext hE
            replace hF1f := hF1f.ext hE
            replace hTr_w34 := hTr_w34.trans (Kp.ext hE)
            replace hLz := hLz.ext hE
            replace hTr_w49 := hTr_w49.trans (Kp.ext hE)
            replace hP := hP.ext hE
            replace hTr_w64 := hTr_w64.trans (Kp.ext hE)
            replace hLy := hLy.ext hE
            replace hTr_w79 := hTr_w79.trans (Kp.ext hE)
            replace hS0p := hS0p.ext hE
            replace hS1p := hS1p.ext hE
            replace hTr_w94 := hTr_w94.trans (Kp.ext hE)
            replace hS0q := hS0q.ext hE
            replace hS1q := hS1q.ext hE
            replace hTr_w103 := hTr_w103.trans (Kp.ext hE)
            replace hS0r := hS0r.ext hE
            replace hS1r := hS1r.ext hE
            replace hTr_w112 := hTr_w112.trans (Kp.ext hE)
            refine oblK_n rfl ?_
            refine opk_norm [(100, .bool (true)), (102, .bool (true))] ⟨rfl, rfl, trivial⟩ (fun ρq => ?_)
            refine o_pickT (v := .bool (true)) rfl (rfl) rfl ?_
            exact ⟨Kp.refl _ _, rfl⟩
          · refine oblK_post rfl rfl (fun w119k vs lo hi hE hkn hap => ?_)
            have hEs := hE.size
            replace hK := hK.trans (Kp.ext hE)
            replace hB6 := hB6.ext hE
            replace hB42 := hB42.ext hE
            replace hB57 := hB57.ext hE
            replace hB72 := hB72.ext hE
            replace hB87 := hB87.ext hE
            replace hBsp := hBsp.ext hE
            replace hBsq := hBsq.ext hE
            replace hBsr := hBsr.ext hE
            replace hT := hT.ext hE
            replace hR0 := hR0.ext hE
            replace hR1 := hR1.ext hE
            replace hR := hR.ext hE
            replace hF0f := hF0f.ext hE
            replace hF1f := hF1f.ext hE
            replace hTr_w34 := hTr_w34.trans (Kp.ext hE)
            replace hLz := hLz.ext hE
            replace hTr_w49 := hTr_w49.trans (Kp.ext hE)
            replace hP := hP.ext hE
            replace hTr_w64 := hTr_w64.trans (Kp.ext hE)
            replace hLy := hLy.ext hE
            replace hTr_w79 := hTr_w79.trans (Kp.ext hE)
            replace hS0p := hS0p.ext hE
            replace hS1p := hS1p.ext hE
            replace hTr_w94 := hTr_w94.trans (Kp.ext hE)
            replace hS0q := hS0q.ext hE
            replace hS1q := hS1q.ext hE
            replace hTr_w103 := hTr_w103.trans (Kp.ext hE)
            replace hS0r := hS0r.ext hE
            replace hS1r := hS1r.ext hE
            replace hTr_w112 := hTr_w112.trans (Kp.ext hE)
            refine oblK_n rfl ?_
            refine opk_norm [(103, .bool (true))] ⟨rfl, trivial⟩ (fun ρq => ?_)
            refine o_move (v := .bool (true)) rfl ?_
            exact ⟨Kp.refl _ _, rfl⟩
          · refine oblK_post rfl rfl (fun w119k vs lo hi hE hkn hap => ?_)
            have hEs := hE.size
            replace hK := hK.trans (Kp.ext hE)
            replace hB6 := hB6.ext hE
            replace hB42 := hB42.ext hE
            replace hB57 := hB57.ext hE
            replace hB72 := hB72.ext hE
            replace hB87 := hB87.ext hE
            replace hBsp := hBsp.ext hE
            replace hBsq := hBsq.ext hE
            replace hBsr := hBsr.ext hE
            replace hT := hT.ext hE
            replace hR0 := hR0.ext hE
            replace hR1 := hR1.ext hE
            replace hR := hR.ext hE
            replace hF0f := hF0f.ext hE
            replace hF1f := hF1f.ext hE
            replace hTr_w34 := hTr_w34.trans (Kp.ext hE)
            replace hLz := hLz.ext hE
            replace hTr_w49 := hTr_w49.trans (Kp.ext hE)
            replace hP := hP.ext hE
            replace hTr_w64 := hTr_w64.trans (Kp.ext hE)
            replace hLy := hLy.ext hE
            replace hTr_w79 := hTr_w79.trans (Kp.ext hE)
            replace hS0p := hS0p.ext hE
            replace hS1p := hS1p.ext hE
            replace hTr_w94 := hTr_w94.trans (Kp.ext hE)
            replace hS0q := hS0q.ext hE
            replace hS1q := hS1q.ext hE
            replace hTr_w103 := hTr_w103.trans (Kp.ext hE)
            replace hS0r := hS0r.ext hE
            replace hS1r := hS1r.ext hE
            replace hTr_w112 := hTr_w112.trans (Kp.ext hE)
            refine oblK_n (want_t rfl (rfl)) ?_
            refine opk_norm [(18, .bool (true)), (104, .bool (true))] ⟨rfl, rfl, trivial⟩ (fun ρq => ?_)
            refine o_move (v := .bool (true)) rfl ?_
            exact ⟨Kp.refl _ _, rfl⟩
          · refine oblK_post rfl rfl (fun w119k vs lo hi hE hkn hap => ?_)
            have hEs := hE.size
            replace hK := hK.trans (Kp.ext hE)
            replace hB6 := hB6.ext hE
            replace hB42 := hB42.ext hE
            replace hB57 := hB57.ext hE
            replace hB72 := hB72.ext hE
            replace hB87 := hB87.ext hE
            replace hBsp := hBsp.ext hE
            replace hBsq := hBsq.ext hE
            replace hBsr := hBsr.ext hE
            replace hT := hT.ext hE
            replace hR0 := hR0.ext hE
            replace hR1 := hR1.ext hE
            replace hR := hR.ext hE
            replace hF0f := hF0f.ext hE
            replace hF1f := hF1f.ext hE
            replace hTr_w34 := hTr_w34.trans (Kp.ext hE)
            replace hLz := hLz.ext hE
            replace hTr_w49 := hTr_w49.trans (Kp.ext hE)
            replace hP := hP.ext hE
            replace hTr_w64 := hTr_w64.trans (Kp.ext hE)
            replace hLy := hLy.ext hE
            replace hTr_w79 := hTr_w79.trans (Kp.ext hE)
            replace hS0p := hS0p.ext hE
            replace hS1p := hS1p.ext hE
            replace hTr_w94 := hTr_w94.trans (Kp.ext hE)
            replace hS0q := hS0q.ext hE
            replace hS1q := hS1q.ext hE
            replace hTr_w103 := hTr_w103.trans (Kp.ext hE)
            replace hS0r := hS0r.ext hE
            replace hS1r := hS1r.ext hE
            replace hTr_w112 := hTr_w112.trans (Kp.ext hE)
            refine oblK_n rfl ?_
            refine opk_norm [(104, .bool (true)), (105, .bool (true))] ⟨rfl, rfl, trivial⟩ (fun ρq => ?_)
            refine o_pickT (v := .bool (true)) rfl (rfl) rfl ?_
            exact ⟨Kp.refl _ _, rfl⟩
          · refine oblK_post rfl rfl (fun w119k vs lo hi hE hkn hap => ?_)
            have hEs := hE.size
            replace hK := hK.trans (Kp.ext hE)
            replace hB6 := hB6.ext hE
            replace hB42 := hB42.ext hE
            replace hB57 := hB57.ext hE
            replace hB72 := hB72.ext hE
            replace hB87 := hB87.ext hE
            replace hBsp := hBsp.ext hE
            replace hBsq := hBsq.ext hE
            replace hBsr := hBsr.ext hE
            replace hT := hT.ext hE
            replace hR0 := hR0.ext hE
            replace hR1 := hR1.ext hE
            replace hR := hR.ext hE
            replace hF0f := hF0f.ext hE
            replace hF1f := hF1f.ext hE
            replace hTr_w34 := hTr_w34.trans (Kp.ext hE)
            replace hLz := hLz.ext hE
            replace hTr_w49 := hTr_w49.trans (Kp.ext hE)
            replace hP := hP.ext hE
            replace hTr_w64 := hTr_w64.trans (Kp.ext hE)
            replace hLy := hLy.ext hE
            replace hTr_w79 := hTr_w79.trans (Kp.ext hE)
            replace hS0p := hS0p.ext hE
            replace hS1p := hS1p.ext hE
            replace hTr_w94 := hTr_w94.trans (Kp.ext hE)
            replace hS0q := hS0q.ext hE
            replace hS1q := hS1q.ext hE
            replace hTr_w103 := hTr_w103.trans (Kp.ext hE)
            replace hS0r := hS0r.ext hE
            replace hS1r := hS1r.ext hE
            replace hTr_w112 := hTr_w112.trans (Kp.ext hE)
            refine oblK_n rfl ?_
            refine opk_norm [(106, .bool (true))] ⟨rfl, trivial⟩ (fun ρq => ?_)
            refine o_move (v := .bool (true)) rfl ?_
            exact ⟨Kp.refl _ _, rfl⟩
          · refine oblK_post rfl rfl (fun w119k vs lo hi hE hkn hap => ?_)
            have hEs := hE.size
            replace hK := hK.trans (Kp.ext hE)
            replace hB6 := hB6.ext hE
            replace hB42 := hB42.ext hE
            replace hB57 := hB57.ext hE
            replace hB72 := hB72.ext hE
            replace hB87 := hB87.ext hE
            replace hBsp := hBsp.ext hE
            replace hBsq := hBsq.ext hE
            replace hBsr := hBsr.ext hE
            replace hT := hT.ext hE
            replace hR0 := hR0.ext hE
            replace hR1 := hR1.ext hE
            replace hR := hR.ext hE
            replace hF0f := hF0f.ext hE
            replace hF1f := hF1f.ext hE
            replace hTr_w34 := hTr_w34.trans (Kp.ext hE)
            replace hLz := hLz.ext hE
            replace hTr_w49 := hTr_w49.trans (Kp.ext hE)
            replace hP := hP.ext hE
            replace hTr_w64 := hTr_w64.trans (Kp.ext hE)
            replace hLy := hLy.ext hE
            replace hTr_w79 := hTr_w79.trans (Kp.ext hE)
            replace hS0p := hS0p.ext hE
            replace hS1p := hS1p.ext hE
            replace hTr_w94 := hTr_w94.trans (Kp.ext hE)
            replace hS0q := hS0q.ext hE
            replace hS1q := hS1q.ext hE
            replace hTr_w103 := hTr_w103.trans (Kp.ext hE)
            replace hS0r := hS0r.ext hE
            replace hS1r := hS1r.ext hE
            replace hTr_w112 := hTr_w112.trans (Kp.ext hE)
            refine oblK_n (want_t rfl (rfl)) ?_
            refine opk_norm [(19, .slice ((some ⟨bsp, 0, none⟩)) 2 2), (107, .bool (true))] ⟨rfl, rfl, trivial⟩ (fun ρq => ?_)
            refine o_move (v := .slice ((some ⟨bsp, 0, none⟩)) 2 2) rfl ?_
            exact ⟨Kp.refl _ _, rfl⟩
          · refine oblK_post rfl rfl (fun w119k vs lo hi hE hkn hap => ?_)
            have hEs := hE.size
            replace hK := hK.trans (Kp.ext hE)
            replace hB6 := hB6.ext hE
            replace hB42 := hB42.ext hE
            replace hB57 := hB57.ext hE
            replace hB72 := hB72.ext hE
            replace hB87 := hB87.ext hE
            replace hBsp := hBsp.ext hE
            replace hBsq := hBsq.ext hE
            replace hBsr := hBsr.ext hE
            replace hT := hT.ext hE
            replace hR0 := hR0.ext hE
            replace hR1 := hR1.ext hE
            replace hR := hR.ext hE
            replace hF0f := hF0f.ext hE
            replace hF1f := hF1f.ext hE
            replace hTr_w34 := hTr_w34.trans (Kp.ext hE)
            replace hLz := hLz.ext hE
            replace hTr_w49 := hTr_w49.trans (Kp.ext hE)
            replace hP := hP.ext hE
            replace hTr_w64 := hTr_w64.trans (Kp.ext hE)
            replace hLy := hLy.ext hE
            replace hTr_w79 := hTr_w79.trans (Kp.ext hE)
            replace hS0p := hS0p.ext hE
            replace hS1p := hS1p.ext hE
            replace hTr_w94 := hTr_w94.trans (Kp.ext hE)
            replace hS0q := hS0q.ext hE
            replace hS1q := hS1q.ext hE
            replace hTr_w103 := hTr_w103.trans (Kp.ext hE)
            replace hS0r := hS0r.ext hE
            replace hS1r := hS1r.ext hE
            replace hTr_w112 := hTr_w112.trans (Kp.ext hE)
            refine oblK_n (want_t rfl (rfl)) ?_
            refine opk_norm [(107, .bool (true)), (108, .slice ((some ⟨bsp, 0, none⟩)) 2 2)] ⟨rfl, rfl, trivial⟩ (fun ρq => ?_)
            refine o_idxAt 0 rfl rfl Tryd.underlying33 Tryd.sizeOf24 rfl rfl (by decide) ?_
            exact ⟨Kp.refl _ _, rfl⟩
          · refine oblK_post rfl rfl (fun w119k vs lo hi hE hkn hap => ?_)
            have hEs := hE.size
            replace hK := hK.trans (Kp.ext hE)
            replace hB6 := hB6.ext hE
            replace hB42 := hB42.ext hE
            replace hB57 := hB57.ext hE
            replace hB72 := hB72.ext hE
            replace hB87 := hB87.ext hE
            replace hBsp := hBsp.ext hE
            replace hBsq := hBsq.ext hE
            replace hBsr := hBsr.ext hE
            replace hT := hT.ext hE
            replace hR0 := hR0.ext hE
            replace hR1 := hR1.ext hE
            replace hR := hR.ext hE
            replace hF0f := hF0f.ext hE
            replace hF1f := hF1f.ext hE
            replace hTr_w34 := hTr_w34.trans (Kp.ext hE)
            replace hLz := hLz.ext hE
            replace hTr_w49 := hTr_w49.trans (Kp.ext hE)
            replace hP := hP.ext hE
            replace hTr_w64 := hTr_w64.trans (Kp.ext hE)
            replace hLy := hLy.ext hE
            replace hTr_w79 := hTr_w79.trans (Kp.ext hE)
            replace hS0p := hS0p.ext hE
            replace hS1p := hS1p.ext hE
            replace hTr_w94 := hTr_w94.trans (Kp.ext hE)
            replace hS0q := hS0q.ext hE
            replace hS1q := hS1q.ext hE
            replace hTr_w103 := hTr_w103.trans (Kp.ext hE)
            replace hS0r := hS0r.ext hE
            replace hS1r := hS1r.ext hE
            replace hTr_w112 := hTr_w112.trans (Kp.ext hE)
            refine oblK_n (want_t rfl (rfl)) ?_
            refine opk_norm [(107, .bool (true)), (109, .pointer (some ⟨bsp, 0, none⟩))] ⟨rfl, rfl, trivial⟩ (fun ρq => ?_)
            refine o_loadB (v := .slice as0p s0.length cs0p) rfl hBsp tyS24 rfl ?_
            exact ⟨Kp.refl _ _, rfl⟩
          · refine oblK_post rfl rfl (fun w119k vs lo hi hE hkn hap => ?_)
            have hEs := hE.size
            replace hK := hK.trans (Kp.ext hE)
            replace hB6 := hB6.ext hE
            replace hB42 := hB42.ext hE
            replace hB57 := hB57.ext hE
            replace hB72 := hB72.ext hE
            replace hB87 := hB87.ext hE
            replace hBsp := hBsp.ext hE
            replace hBsq := hBsq.ext hE
            replace hBsr := hBsr.ext hE
            replace hT := hT.ext hE
            replace hR0 := hR0.ext hE
            replace hR1 := hR1.ext hE
            replace hR := hR.ext hE
            replace hF0f := hF0f.ext hE
            replace hF1f := hF1f.ext hE
            replace hTr_w34 := hTr_w34.trans (Kp.ext hE)
            replace hLz := hLz.ext hE
            replace hTr_w49 := hTr_w49.trans (Kp.ext hE)
            replace hP := hP.ext hE
            replace hTr_w64 := hTr_w64.trans (Kp.ext hE)
            replace hLy := hLy.ext hE
            replace hTr_w79 := hTr_w79.trans (Kp.ext hE)
            replace hS0p := hS0p.ext hE
            replace hS1p := hS1p.ext hE
            replace hTr_w94 := hTr_w94.trans (Kp.ext hE)
            replace hS0q := hS0q.ext hE
            replace hS1q := hS1q.ext hE
            replace hTr_w103 := hTr_w103.trans (Kp.ext hE)
            replace hS0r := hS0r.ext hE
            replace hS1r := hS1r.ext hE
            replace hTr_w112 := hTr_w112.trans (Kp.ext hE)
            refine oblK_n (want_t rfl (rfl)) ?_
            refine opk_norm [(107, .bool (true)), (110, .slice as0p s0.length cs0p)] ⟨rfl, rfl, trivial⟩ (fun ρq => ?_)
            refine o_strOf (xs := s0) rfl Tryd.underlying24 Tryd.underlying5 Tryd.underlying9 hS0p ?_
            exact ⟨Kp.refl _ _, rfl⟩
          · refine oblK_post rfl rfl (fun w119k vs lo hi hE hkn hap => ?_)
            have hEs := hE.size
            replace hK := hK.trans (Kp.ext hE)
            replace hB6 := hB6.ext hE
            replace hB42 := hB42.ext hE
            replace hB57 := hB57.ext hE
            replace hB72 := hB72.ext hE
            replace hB87 := hB87.ext hE
            replace hBsp := hBsp.ext hE
            replace hBsq := hBsq.ext hE
            replace hBsr := hBsr.ext hE
            replace hT := hT.ext hE
            replace hR0 := hR0.ext hE
            replace hR1 := hR1.ext hE
            replace hR := hR.ext hE
            replace hF0f := hF0f.ext hE
            replace hF1f := hF1f.ext hE
            replace hTr_w34 := hTr_w34.trans (Kp.ext hE)
            replace hLz := hLz.ext hE
            replace hTr_w49 := hTr_w49.trans (Kp.ext hE)
            replace hP := hP.ext hE
            replace hTr_w64 := hTr_w64.trans (Kp.ext hE)
            replace hLy := hLy.ext hE
            replace hTr_w79 := hTr_w79.trans (Kp.ext hE)
            replace hS0p := hS0p.ext hE
            replace hS1p := hS1p.ext hE
            replace hTr_w94 := hTr_w94.trans (Kp.ext hE)
            replace hS0q := hS0q.ext hE
            replace hS1q := hS1q.ext hE
            replace hTr_w103 := hTr_w103.trans (Kp.ext hE)
            replace hS0r := hS0r.ext hE
            replace hS1r := hS1r.ext hE
            replace hTr_w112 := hTr_w112.trans (Kp.ext hE)
            refine oblK_n (want_t rfl (rfl)) ?_
            refine opk_norm [(0, .slice a0 s0.length p0), (107, .bool (true))] ⟨rfl, rfl, trivial⟩ (fun ρq => ?_)
            refine o_move (v := .slice a0 s0.length p0) rfl ?_
            exact ⟨Kp.refl _ _, rfl⟩
          · refine oblK_post rfl rfl (fun w119k vs lo hi hE hkn hap => ?_)
            have hEs := hE.size
            replace hK := hK.trans (Kp.ext hE)
            replace hB6 := hB6.ext hE
            replace hB42 := hB42.ext hE
            replace hB57 := hB57.ext hE
            replace hB72 := hB72.ext hE
            replace hB87 := hB87.ext hE
            replace hBsp := hBsp.ext hE
            replace hBsq := hBsq.ext hE
            replace hBsr := hBsr.ext hE
            replace hT := hT.ext hE
            replace hR0 := hR0.ext hE
            replace hR1 := hR1.ext hE
            replace hR := hR.ext hE
            replace hF0f := hF0f.ext hE
            replace hF1f := hF1f.ext hE
            replace hTr_w34 := hTr_w34.trans (Kp.ext hE)
            replace hLz := hLz.ext hE
            replace hTr_w49 := hTr_w49.trans (Kp.ext hE)
            replace hP := hP.ext hE
            replace hTr_w64 := hTr_w64.trans (Kp.ext hE)
            replace hLy := hLy.ext hE
            replace hTr_w79 := hTr_w79.trans (Kp.ext hE)
            replace hS0p := hS0p.ext hE
            replace hS1p := hS1p.ext hE
            replace hTr_w94 := hTr_w94.trans (Kp.ext hE)
            replace hS0q := hS0q.ext hE
            replace hS1q := hS1q.ext hE
            replace hTr_w103 := hTr_w103.trans (Kp.ext hE)
            replace hS0r := hS0r.ext hE
            replace hS1r := hS1r.ext hE
            replace hTr_w112 := hTr_w112.trans (Kp.ext hE)
            refine oblK_n (want_t rfl (rfl)) ?_
            refine opk_norm [(107, .bool (true)), (112, .slice a0 s0.length p0)] ⟨rfl, rfl, trivial⟩ (fun ρq => ?_)
            refine o_strOf (xs := s0) rfl Tryd.underlying24 Tryd.underlying5 Tryd.underlying9 hR0 ?_
            exact ⟨Kp.refl _ _, rfl⟩
          · refine oblK_post rfl rfl (fun w119k vs lo hi hE hkn hap => ?_)
            have hEs := hE.size
            replace hK := hK.trans (Kp.ext hE)
            replace hB6 := hB6.ext hE
            replace hB42 := hB42.ext hE
            replace hB57 := hB57.ext hE
            replace hB72 := hB72.ext hE
            replace hB87 := hB87.ext hE
            replace hBsp := hBsp.ext hE
            replace hBsq := hBsq.ext hE
            replace hBsr := hBsr.ext hE
            replace hT := hT.ext hE
            replace hR0 := hR0.ext hE
            replace hR1 := hR1.ext hE
            replace hR := hR.ext hE
            replace hF0f := hF0f.ext hE
            replace hF1f := hF1f.ext hE
            replace hTr_w34 := hTr_w34.trans (Kp.ext hE)
            replace hLz := hLz.ext hE
            replace hTr_w49 := hTr_w49.trans (Kp.ext hE)
            replace hP := hP.ext hE
            replace hTr_w64 := hTr_w64.trans (Kp.ext hE)
            replace hLy := hLy.ext hE
            replace hTr_w79 := hTr_w79.trans (Kp.ext hE)
            replace hS0p := hS0p.ext hE
            replace hS1p := hS1p.ext hE
            replace hTr_w94 := hTr_w94.trans (Kp.ext hE)
            replace hS0q := hS0q.ext hE
            replace hS1q := hS1q.ext hE
            replace hTr_w103 := hTr_w103.trans (Kp.ext hE)
            replace hS0r := hS0r.ext hE
            replace hS1r := hS1r.ext hE
            replace hTr_w112 := hTr_w112.trans (Kp.ext hE)
            refine oblK_n (want_t rfl (rfl)) ?_
            refine opk_norm [(107, .bool (true)), (111, .string (strOf s0)), (113, .string (strOf s0))] ⟨rfl, rfl, rfl, trivial⟩ (fun ρq => ?_)
            refine o_eqSt (a := strOf s0) rfl rfl rfl ?_
            exact ⟨Kp.refl _ _, rfl⟩
          · refine oblK_post rfl rfl (fun w119k vs lo hi hE hkn hap => ?_)
            have hEs := hE.size
            replace hK := hK.trans (Kp.ext hE)
            replace hB6 := hB6.ext hE
            replace hB42 := hB42.ext hE
            replace hB57 := hB57.ext hE
            replace hB72 := hB72.ext hE
            replace hB87 := hB87.ext hE
            replace hBsp := hBsp.ext hE
            replace hBsq := hBsq.ext hE
            replace hBsr := hBsr.ext hE
            replace hT := hT.ext hE
            replace hR0 := hR0.ext hE
            replace hR1 := hR1.ext hE
            replace hR := hR.ext hE
            replace hF0f := hF0f.ext hE
            replace hF1f := hF1f.ext hE
            replace hTr_w34 := hTr_w34.trans (Kp.ext hE)
            replace hLz := hLz.ext hE
            replace hTr_w49 := hTr_w49.trans (Kp.ext hE)
            replace hP := hP.ext hE
            replace hTr_w64 := hTr_w64.trans (Kp.ext hE)
            replace hLy := hLy.ext hE
            replace hTr_w79 := hTr_w79.trans (Kp.ext hE)
            replace hS0p := hS0p.ext hE
            replace hS1p := hS1p.ext hE
            replace hTr_w94 := hTr_w94.trans (Kp.ext hE)
            replace hS0q := hS0q.ext hE
            replace hS1q := hS1q.ext hE
            replace hTr_w103 := hTr_w103.trans (Kp.ext hE)
            replace hS0r := hS0r.ext hE
            replace hS1r := hS1r.ext hE
            replace hTr_w112 := hTr_w112.trans (Kp.ext hE)
            refine oblK_n rfl ?_
            refine opk_norm [(107, .bool (true)), (114, .bool (true))] ⟨rfl, rfl, trivial⟩ (fun ρq => ?_)
            refine o_pickT (v := .bool (true)) rfl (rfl) rfl ?_
            exact ⟨Kp.refl _ _, rfl⟩
          · refine oblK_post rfl rfl (fun w119k vs lo hi hE hkn hap => ?_)
            have hEs := hE.size
            replace hK := hK.trans (Kp.ext hE)
            replace hB6 := hB6.ext hE
            replace hB42 := hB42.ext hE
            replace hB57 := hB57.ext hE
            replace hB72 := hB72.ext hE
            replace hB87 := hB87.ext hE
            replace hBsp := hBsp.ext hE
            replace hBsq := hBsq.ext hE
            replace hBsr := hBsr.ext hE
            replace hT := hT.ext hE
            replace hR0 := hR0.ext hE
            replace hR1 := hR1.ext hE
            replace hR := hR.ext hE
            replace hF0f := hF0f.ext hE
            replace hF1f := hF1f.ext hE
            replace hTr_w34 := hTr_w34.trans (Kp.ext hE)
            replace hLz := hLz.ext hE
            replace hTr_w49 := hTr_w49.trans (Kp.ext hE)
            replace hP := hP.ext hE
            replace hTr_w64 := hTr_w64.trans (Kp.ext hE)
            replace hLy := hLy.ext hE
            replace hTr_w79 := hTr_w79.trans (Kp.ext hE)
            replace hS0p := hS0p.ext hE
            replace hS1p := hS1p.ext hE
            replace hTr_w94 := hTr_w94.trans (Kp.ext hE)
            replace hS0q := hS0q.ext hE
            replace hS1q := hS1q.ext hE
            replace hTr_w103 := hTr_w103.trans (Kp.ext hE)
            replace hS0r := hS0r.ext hE
            replace hS1r := hS1r.ext hE
            replace hTr_w112 := hTr_w112.trans (Kp.ext hE)
            refine oblK_n rfl ?_
            refine opk_norm [(115, .bool (true))] ⟨rfl, trivial⟩ (fun ρq => ?_)
            refine o_move (v := .bool (true)) rfl ?_
            exact ⟨Kp.refl _ _, rfl⟩
          · refine oblK_post rfl rfl (fun w119k vs lo hi hE hkn hap => ?_)
            have hEs := hE.size
            replace hK := hK.trans (Kp.ext hE)
            replace hB6 := hB6.ext hE
            replace hB42 := hB42.ext hE
            replace hB57 := hB57.ext hE
            replace hB72 := hB72.ext hE
            replace hB87 := hB87.ext hE
            replace hBsp := hBsp.ext hE
            replace hBsq := hBsq.ext hE
            replace hBsr := hBsr.ext hE
            replace hT := hT.ext hE
            replace hR0 := hR0.ext hE
            replace hR1 := hR1.ext hE
            replace hR := hR.ext hE
            replace hF0f := hF0f.ext hE
            replace hF1f := hF1f.ext hE
            replace hTr_w34 := hTr_w34.trans (Kp.ext hE)
            replace hLz := hLz.ext hE
            replace hTr_w49 := hTr_w49.trans (Kp.ext hE)
            replace hP := hP.ext hE
            replace hTr_w64 := hTr_w64.trans (Kp.ext hE)
            replace hLy := hLy.ext hE
            replace hTr_w79 := hTr_w79.trans (Kp.ext hE)
            replace hS0p := hS0p.ext hE
            replace hS1p := hS1p.ext hE
            replace hTr_w94 := hTr_w94.trans (Kp.ext hE)
            replace hS0q := hS0q.ext hE
            replace hS1q := hS1q.ext hE
            replace hTr_w103 := hTr_w103.trans (Kp.ext hE)
            replace hS0r := hS0r.ext hE
            replace hS1r := hS1r.ext hE
            replace hTr_w112 := hTr_w112.trans (Kp.ext hE)
            refine oblK_n (want_t rfl (rfl)) ?_
            refine opk_norm [(20, .slice ((some ⟨bsq, 0, none⟩)) 2 2), (116, .bool (true))] ⟨rfl, rfl, trivial⟩ (fun ρq => ?_)
            refine o_move (v := .slice ((some ⟨bsq, 0, none⟩)) 2 2) rfl ?_
            exact ⟨Kp.refl _ _, rfl⟩
          · refine oblK_post rfl rfl (fun w119k vs lo hi hE hkn hap => ?_)
            have hEs := hE.size
            replace hK := hK.trans (Kp.ext hE)
            replace hB6 := hB6.ext hE
            replace hB42 := hB42.ext hE
            replace hB57 := hB57.ext hE
            replace hB72 := hB72.ext hE
            replace hB87 := hB87.ext hE
            replace hBsp := hBsp.ext hE
            replace hBsq := hBsq.ext hE
            replace hBsr := hBsr.ext hE
            replace hT := hT.ext hE
            replace hR0 := hR0.ext hE
            replace hR1 := hR1.ext hE
            replace hR := hR.ext hE
            replace hF0f := hF0f.ext hE
            replace hF1f := hF1f.ext hE
            replace hTr_w34 := hTr_w34.trans (Kp.ext hE)
            replace hLz := hLz.ext hE
            replace hTr_w49 := hTr_w49.trans (Kp.ext hE)
            replace hP := hP.ext hE
            replace hTr_w64 := hTr_w64.trans (Kp.ext hE)
            replace hLy := hLy.ext hE
            replace hTr_w79 := hTr_w79.trans (Kp.ext hE)
            replace hS0p := hS0p.ext hE
            replace hS1p := hS1p.ext hE
            replace hTr_w94 := hTr_w94.trans (Kp.ext hE)
            replace hS0q := hS0q.ext hE
            replace hS1q := hS1q.ext hE
            replace hTr_w103 := hTr_w103.trans (Kp.ext hE)
            replace hS0r := hS0r.ext hE
            replace hS1r := hS1r.ext hE
            replace hTr_w112 := hTr_w112.trans (Kp.ext hE)
            refine oblK_n (want_t rfl (rfl)) ?_
            refine opk_norm [(116, .bool (true)), (117, .slice ((some ⟨bsq, 0, none⟩)) 2 2)] ⟨rfl, rfl, trivial⟩ (fun ρq => ?_)
            refine o_idxAt 1 rfl rfl Tryd.underlying33 Tryd.sizeOf24 rfl rfl (by decide) ?_
            exact ⟨Kp.refl _ _, rfl⟩
          · refine oblK_post rfl rfl (fun w119k vs lo hi hE hkn hap => ?_)
            have hEs := hE.size
            replace hK := hK.trans (Kp.ext hE)
            replace hB6 := hB6.ext hE
            replace hB42 := hB42.ext hE
            replace hB57 := hB57.ext hE
            replace hB72 := hB72.ext hE
            replace hB87 := hB87.ext hE
            replace hBsp := hBsp.ext hE
            replace hBsq := hBsq.ext hE
            replace hBsr := hBsr.ext hE
            replace hT := hT.ext hE
            replace hR0 := hR0.ext hE
            replace hR1 := hR1.ext hE
            replace hR := hR.ext hE
            replace hF0f := hF0f.ext hE
            replace hF1f := hF1f.ext hE
            replace hTr_w34 := hTr_w34.trans (Kp.ext hE)
            replace hLz := hLz.ext hE
            replace hTr_w49 := hTr_w49.trans (Kp.ext hE)
            replace hP := hP.ext hE
            replace hTr_w64 := hTr_w64.trans (Kp.ext hE)
            replace hLy := hLy.ext hE
            replace hTr_w79 := hTr_w79.trans (Kp.ext hE)
            replace hS0p := hS0p.ext hE
            replace hS1p := hS1p.ext hE
            replace hTr_w94 := hTr_w94.trans (Kp.ext hE)
            replace hS0q := hS0q.ext hE
            replace hS1q := hS1q.ext hE
            replace hTr_w103 := hTr_w103.trans (Kp.ext hE)
            replace hS0r := hS0r.ext hE
            replace hS1r := hS1r.ext hE
            replace hTr_w112 := hTr_w112.trans (Kp.ext hE)
            refine oblK_n (want_t rfl (rfl)) ?_
            refine opk_norm [(116, .bool (true)), (118, .pointer (some ⟨bsq, 1, none⟩))] ⟨rfl, rfl, trivial⟩ (fun ρq => ?_)
            refine o_loadB (v := .slice as1q X1.length cs1q) rfl hBsq tyS24 rfl ?_
            exact ⟨Kp.refl _ _, rfl⟩
          · refine oblK_post rfl rfl (fun w119k vs lo hi hE hkn hap => ?_)
            have hEs := hE.size
            replace hK := hK.trans (Kp.ext hE)
            replace hB6 := hB6.ext hE
            replace hB42 := hB42.ext hE
            replace hB57 := hB57.ext hE
            replace hB72 := hB72.ext hE
            replace hB87 := hB87.ext hE
            replace hBsp := hBsp.ext hE
            replace hBsq := hBsq.ext hE
            replace hBsr := hBsr.ext hE
            replace hT := hT.ext hE
            replace hR0 := hR0.ext hE
            replace hR1 := hR1.ext hE
            replace hR := hR.ext hE
            replace hF0f := hF0f.ext hE
            replace hF1f := hF1f.ext hE
            replace hTr_w34 := hTr_w34.trans (Kp.ext hE)
            replace hLz := hLz.ext hE
            replace hTr_w49 := hTr_w49.trans (Kp.ext hE)
            replace hP := hP.ext hE
            replace hTr_w64 := hTr_w64.trans (Kp.ext hE)
            replace hLy := hLy.ext hE
            replace hTr_w79 := hTr_w79.trans (Kp.ext hE)
            replace hS0p := hS0p.ext hE
            replace hS1p := hS1p.ext hE
            replace hTr_w94 := hTr_w94.trans (Kp.ext hE)
            replace hS0q := hS0q.ext hE
            replace hS1q := hS1q.ext hE
            replace hTr_w103 := hTr_w103.trans (Kp.ext hE)
            replace hS0r := hS0r.ext hE
            replace hS1r := hS1r.ext hE
            replace hTr_w112 := hTr_w112.trans (Kp.ext hE)
            refine oblK_n (want_t rfl (rfl)) ?_
            refine opk_norm [(116, .bool (true)), (119, .slice as1q X1.length cs1q)] ⟨rfl, rfl, trivial⟩ (fun ρq => ?_)
            refine o_strOf (xs := X1) rfl Tryd.underlying24 Tryd.underlying5 Tryd.underlying9 hS1q ?_
            exact ⟨Kp.refl _ _, rfl⟩
          · refine oblK_post rfl rfl (fun w119k vs lo hi hE hkn hap => ?_)
            have hEs := hE.size
            replace hK := hK.trans (Kp.ext hE)
            replace hB6 := hB6.ext hE
            replace hB42 := hB42.ext hE
            replace hB57 := hB57.ext hE
            replace hB72 := hB72.ext hE
            replace hB87 := hB87.ext hE
            replace hBsp := hBsp.ext hE
            replace hBsq := hBsq.ext hE
            replace hBsr := hBsr.ext hE
            replace hT := hT.ext hE
            replace hR0 := hR0.ext hE
            replace hR1 := hR1.ext hE
            replace hR := hR.ext hE
            replace hF0f := hF0f.ext hE
            replace hF1f := hF1f.ext hE
            replace hTr_w34 := hTr_w34.trans (Kp.ext hE)
            replace hLz := hLz.ext hE
            replace hTr_w49 := hTr_w49.trans (Kp.ext hE)
            replace hP := hP.ext hE
            replace hTr_w64 := hTr_w64.trans (Kp.ext hE)
            replace hLy := hLy.ext hE
            replace hTr_w79 := hTr_w79.trans (Kp.ext hE)
            replace hS0p := hS0p.ext hE
            replace hS1p := hS1p.ext hE
            replace hTr_w94 := hTr_w94.trans (Kp.ext hE)
            replace hS0q := hS0q.ext hE
            replace hS1q := hS1q.ext hE
            replace hTr_w103 := hTr_w103.trans (Kp.ext hE)
            replace hS0r := hS0r.ext hE
            replace hS1r := hS1r.ext hE
            replace hTr_w112 := hTr_w112.trans (Kp.ext hE)
            refine oblK_n (want_t rfl (rfl)) ?_
            refine opk_norm [(19, .slice ((some ⟨bsp, 0, none⟩)) 2 2), (116, .bool (true))] ⟨rfl, rfl, trivial⟩ (fun ρq => ?_)
            refine o_move (v := .slice ((some ⟨bsp, 0, none⟩)) 2 2) rfl ?_
            exact ⟨Kp.refl _ _, rfl⟩
          · refine oblK_post rfl rfl (fun w119k vs lo hi hE hkn hap => ?_)
            have hEs := hE.size
            replace hK := hK.trans (Kp.ext hE)
            replace hB6 := hB6.ext hE
            replace hB42 := hB42.ext hE
            replace hB57 := hB57.ext hE
            replace hB72 := hB72.ext hE
            replace hB87 := hB87.ext hE
            replace hBsp := hBsp.ext hE
            replace hBsq := hBsq.ext hE
            replace hBsr := hBsr.ext hE
            replace hT := hT.ext hE
            replace hR0 := hR0.ext hE
            replace hR1 := hR1.ext hE
            replace hR := hR.ext hE
            replace hF0f := hF0f.ext hE
            replace hF1f := hF1f.ext hE
            replace hTr_w34 := hTr_w34.trans (Kp.ext hE)
            replace hLz := hLz.ext hE
            replace hTr_w49 := hTr_w49.trans (Kp.ext hE)
            replace hP := hP.ext hE
            replace hTr_w64 := hTr_w64.trans (Kp.ext hE)
            replace hLy := hLy.ext hE
            replace hTr_w79 := hTr_w79.trans (Kp.ext hE)
            replace hS0p := hS0p.ext hE
            replace hS1p := hS1p.ext hE
            replace hTr_w94 := hTr_w94.trans (Kp.ext hE)
            replace hS0q := hS0q.ext hE
            replace hS1q := hS1q.ext hE
            replace hTr_w103 := hTr_w103.trans (Kp.ext hE)
            replace hS0r := hS0r.ext hE
            replace hS1r := hS1r.ext hE
            replace hTr_w112 := hTr_w112.trans (Kp.ext hE)
            refine oblK_n (want_t rfl (rfl)) ?_
            refine opk_norm [(116, .bool (true)), (121, .slice ((some ⟨bsp, 0, none⟩)) 2 2)] ⟨rfl, rfl, trivial⟩ (fun ρq => ?_)
            refine o_idxAt 1 rfl rfl Tryd.underlying33 Tryd.sizeOf24 rfl rfl (by decide) ?_
            exact ⟨Kp.refl _ _, rfl⟩
          · refine oblK_post rfl rfl (fun w119k vs lo hi hE hkn hap => ?_)
            have hEs := hE.size
            replace hK := hK.trans (Kp.ext hE)
            replace hB6 := hB6.ext hE
            replace hB42 := hB42.ext hE
            replace hB57 := hB57.ext hE
            replace hB72 := hB72.ext hE
            replace hB87 := hB87.ext hE
            replace hBsp := hBsp.ext hE
            replace hBsq := hBsq.ext hE
            replace hBsr := hBsr.ext hE
            replace hT := hT.ext hE
            replace hR0 := hR0.ext hE
            replace hR1 := hR1.ext hE
            replace hR := hR.ext hE
            replace hF0f := hF0f.ext hE
            replace hF1f := hF1f.ext hE
            replace hTr_w34 := hTr_w34.trans (Kp.ext hE)
            replace hLz := hLz.ext hE
            replace hTr_w49 := hTr_w49.trans (Kp.ext hE)
            replace hP := hP.ext hE
            replace hTr_w64 := hTr_w64.trans (Kp.ext hE)
            replace hLy := hLy.ext hE
            replace hTr_w79 := hTr_w79.trans (Kp.ext hE)
            replace hS0p := hS0p.ext hE
            replace hS1p := hS1p.ext hE
            replace hTr_w94 := hTr_w94.trans (Kp.ext hE)
            replace hS0q := hS0q.ext hE
            replace hS1q := hS1q.ext hE
            replace hTr_w103 := hTr_w103.trans (Kp.ext hE)
            replace hS0r := hS0r.ext hE
            replace hS1r := hS1r.ext hE
            replace hTr_w112 := hTr_w112.trans (Kp.ext hE)
            refine oblK_n (want_t rfl (rfl)) ?_
            refine opk_norm [(116, .bool (true)), (122, .pointer (some ⟨bsp, 1, none⟩))] ⟨rfl, rfl, trivial⟩ (fun ρq => ?_)
            refine o_loadB (v := .slice as1p X1.length cs1p) rfl hBsp tyS24 rfl ?_
            exact ⟨Kp.refl _ _, rfl⟩
          · refine oblK_post rfl rfl (fun w119k vs lo hi hE hkn hap => ?_)
            have hEs := hE.size
            replace hK := hK.trans (Kp.ext hE)
            replace hB6 := hB6.ext hE
            replace hB42 := hB42.ext hE
            replace hB57 := hB57.ext hE
            replace hB72 := hB72.ext hE
            replace hB87 := hB87.ext hE
            replace hBsp := hBsp.ext hE
            replace hBsq := hBsq.ext hE
            replace hBsr := hBsr.ext hE
            replace hT := hT.ext hE
            replace hR0 := hR0.ext hE
            replace hR1 := hR1.ext hE
            replace hR := hR.ext hE
            replace hF0f := hF0f.ext hE
            replace hF1f := hF1f.ext hE
            replace hTr_w34 := hTr_w34.trans (Kp.ext hE)
            replace hLz := hLz.ext hE
            replace hTr_w49 := hTr_w49.trans (Kp.ext hE)
            replace hP := hP.ext hE
            replace hTr_w64 := hTr_w64.trans (Kp.ext hE)
            replace hLy := hLy.ext hE
            replace hTr_w79 := hTr_w79.trans (Kp.ext hE)
            replace hS0p := hS0p.ext hE
            replace hS1p := hS1p.ext hE
            replace hTr_w94 := hTr_w94.trans (Kp.ext hE)
            replace hS0q := hS0q.ext hE
            replace hS1q := hS1q.ext hE
            replace hTr_w103 := hTr_w103.trans (Kp.ext hE)
            replace hS0r := hS0r.ext hE
            replace hS1r := hS1r.ext hE
            replace hTr_w112 := hTr_w112.trans (Kp.ext hE)
            refine oblK_n (want_t rfl (rfl)) ?_
            refine opk_norm [(116, .bool (true)), (123, .slice as1p X1.length cs1p)] ⟨rfl, rfl, trivial⟩ (fun ρq => ?_)
            refine o_strOf (xs := X1) rfl Tryd.underlying24 Tryd.underlying5 Tryd.underlying9 hS1p ?_
            exact ⟨Kp.refl _ _, rfl⟩
          · refine oblK_post rfl rfl (fun w119k vs lo hi hE hkn hap => ?_)
            have hEs := hE.size
            replace hK := hK.trans (Kp.ext hE)
            replace hB6 := hB6.ext hE
            replace hB42 := hB42.ext hE
            replace hB57 := hB57.ext hE
            replace hB72 := hB72.ext hE
            replace hB87 := hB87.ext hE
            replace hBsp := hBsp.ext hE
            replace hBsq := hBsq.ext hE
            replace hBsr := hBsr.ext hE
            replace hT := hT.ext hE
            replace hR0 := hR0.ext hE
            replace hR1 := hR1.ext hE
            replace hR := hR.ext hE
            replace hF0f := hF0f.ext hE
            replace hF1f := hF1f.ext hE
            replace hTr_w34 := hTr_w34.trans (Kp.ext hE)
            replace hLz := hLz.ext hE
            replace hTr_w49 := hTr_w49.trans (Kp.ext hE)
            replace hP := hP.ext hE
            replace hTr_w64 := hTr_w64.trans (Kp.ext hE)
            replace hLy := hLy.ext hE
            replace hTr_w79 := hTr_w79.trans (Kp.ext hE)
            replace hS0p := hS0p.ext hE
            replace hS1p := hS1p.ext hE
            replace hTr_w94 := hTr_w94.trans (Kp.ext hE)
            replace hS0q := hS0q.ext hE
            replace hS1q := hS1q.ext hE
            replace hTr_w103 := hTr_w103.trans (Kp.ext hE)
            replace hS0r := hS0r.ext hE
            replace hS1r := hS1r.ext hE
            replace hTr_w112 := hTr_w112.trans (Kp.ext hE)
            refine oblK_n (want_t rfl (rfl)) ?_
            refine opk_norm [(116, .bool (true)), (120, .string (strOf X1)), (124, .string (strOf X1))] ⟨rfl, rfl, rfl, trivial⟩ (fun ρq => ?_)
            refine o_eqSt (a := strOf X1) rfl rfl rfl ?_
            exact ⟨Kp.refl _ _, rfl⟩
          · refine oblK_post rfl rfl (fun w119k vs lo hi hE hkn hap => ?_)
            have hEs := hE.size
            replace hK := hK.trans (Kp.ext hE)
            replace hB6 := hB6.ext hE
            replace hB42 := hB42.ext hE
            replace hB57 := hB57.ext hE
            replace hB72 := hB72.ext hE
            replace hB87 := hB87.ext hE
            replace hBsp := hBsp.ext hE
            replace hBsq := hBsq.ext hE
            replace hBsr := hBsr.ext hE
            replace hT := hT.ext hE
            replace hR0 := hR0.ext hE
            replace hR1 := hR1.ext hE
            replace hR := hR.ext hE
            replace hF0f := hF0f.ext hE
            replace hF1f := hF1f.ext hE
            replace hTr_w34 := hTr_w34.trans (Kp.ext hE)
            replace hLz := hLz.ext hE
            replace hTr_w49 := hTr_w49.trans (Kp.ext hE)
            replace hP := hP.ext hE
            replace hTr_w64 := hTr_w64.trans (Kp.ext hE)
            replace hLy := hLy.ext hE
            replace hTr_w79 := hTr_w79.trans (Kp.ext hE)
            replace hS0p := hS0p.ext hE
            replace hS1p := hS1p.ext hE
            replace hTr_w94 := hTr_w94.trans (Kp.ext hE)
            replace hS0q := hS0q.ext hE
            replace hS1q := hS1q.ext hE
            replace hTr_w103 := hTr_w103.trans (Kp.ext hE)
            replace hS0r := hS0r.ext hE
            replace hS1r := hS1r.ext hE
            replace hTr_w112 := hTr_w112.trans (Kp.ext hE)
            refine oblK_n rfl ?_
            refine opk_norm [(116, .bool (true)), (125, .bool (true))] ⟨rfl, rfl, trivial⟩ (fun ρq => ?_)
            refine o_pickT (v := .bool (true)) rfl (rfl) rfl ?_
            exact ⟨Kp.refl _ _, rfl⟩
          · refine oblK_post rfl rfl (fun w119k vs lo hi hE hkn hap => ?_)
            have hEs := hE.size
            replace hK := hK.trans (Kp.ext hE)
            replace hB6 := hB6.ext hE
            replace hB42 := hB42.ext hE
            replace hB57 := hB57.ext hE
            replace hB72 := hB72.ext hE
            replace hB87 := hB87.ext hE
            replace hBsp := hBsp.ext hE
            replace hBsq := hBsq.ext hE
            replace hBsr := hBsr.ext hE
            replace hT := hT.ext hE
            replace hR0 := hR0.ext hE
            replace hR1 := hR1.ext hE
            replace hR := hR.ext hE
            replace hF0f := hF0f.ext hE
            replace hF1f := hF1f.ext hE
            replace hTr_w34 := hTr_w34.trans (Kp.ext hE)
            replace hLz := hLz.ext hE
            replace hTr_w49 := hTr_w49.trans (Kp.ext hE)
            replace hP := hP.ext hE
            replace hTr_w64 := hTr_w64.trans (Kp.ext hE)
            replace hLy := hLy.ext hE
            replace hTr_w79 := hTr_w79.trans (Kp.ext hE)
            replace hS0p := hS0p.ext hE
            replace hS1p := hS1p.ext hE
            replace hTr_w94 := hTr_w94.trans (Kp.ext hE)
            replace hS0q := hS0q.ext hE
            replace hS1q := hS1q.ext hE
            replace hTr_w103 := hTr_w103.trans (Kp.ext hE)
            replace hS0r := hS0r.ext hE
            replace hS1r := hS1r.ext hE
            replace hTr_w112 := hTr_w112.trans (Kp.ext hE)
            refine oblK_n rfl ?_
            refine opk_norm [(126, .bool (true))] ⟨rfl, trivial⟩ (fun ρq => ?_)
            refine o_move (v := .bool (true)) rfl ?_
            exact ⟨Kp.refl _ _, rfl⟩
          · refine oblK_post rfl rfl (fun w119k vs lo hi hE hkn hap => ?_)
            have hEs := hE.size
            replace hK := hK.trans (Kp.ext hE)
            replace hB6 := hB6.ext hE
            replace hB42 := hB42.ext hE
            replace hB57 := hB57.ext hE
            replace hB72 := hB72.ext hE
            replace hB87 := hB87.ext hE
            replace hBsp := hBsp.ext hE
            replace hBsq := hBsq.ext hE
            replace hBsr := hBsr.ext hE
            replace hT := hT.ext hE
            replace hR0 := hR0.ext hE
            replace hR1 := hR1.ext hE
            replace hR := hR.ext hE
            replace hF0f := hF0f.ext hE
            replace hF1f := hF1f.ext hE
            replace hTr_w34 := hTr_w34.trans (Kp.ext hE)
            replace hLz := hLz.ext hE
            replace hTr_w49 := hTr_w49.trans (Kp.ext hE)
            replace hP := hP.ext hE
            replace hTr_w64 := hTr_w64.trans (Kp.ext hE)
            replace hLy := hLy.ext hE
            replace hTr_w79 := hTr_w79.trans (Kp.ext hE)
            replace hS0p := hS0p.ext hE
            replace hS1p := hS1p.ext hE
            replace hTr_w94 := hTr_w94.trans (Kp.ext hE)
            replace hS0q := hS0q.ext hE
            replace hS1q := hS1q.ext hE
            replace hTr_w103 := hTr_w103.trans (Kp.ext hE)
            replace hS0r := hS0r.ext hE
            replace hS1r := hS1r.ext hE
            replace hTr_w112 := hTr_w112.trans (Kp.ext hE)
            refine oblK_n (want_t rfl (rfl)) ?_
            refine opk_norm [(21, .slice ((some ⟨bsr, 0, none⟩)) 2 2), (127, .bool (true))] ⟨rfl, rfl, trivial⟩ (fun ρq => ?_)
            refine o_move (v := .slice ((some ⟨bsr, 0, none⟩)) 2 2) rfl ?_
            exact ⟨Kp.refl _ _, rfl⟩
          · refine oblK_post rfl rfl (fun w119k vs lo hi hE hkn hap => ?_)
            have hEs := hE.size
            replace hK := hK.trans (Kp.ext hE)
            replace hB6 := hB6.ext hE
            replace hB42 := hB42.ext hE
            replace hB57 := hB57.ext hE
            replace hB72 := hB72.ext hE
            replace hB87 := hB87.ext hE
            replace hBsp := hBsp.ext hE
            replace hBsq := hBsq.ext hE
            replace hBsr := hBsr.ext hE
            replace hT := hT.ext hE
            replace hR0 := hR0.ext hE
            replace hR1 := hR1.ext hE
            replace hR := hR.ext hE
            replace hF0f := hF0f.ext hE
            replace hF1f := hF1f.ext hE
            replace hTr_w34 := hTr_w34.trans (Kp.ext hE)
            replace hLz := hLz.ext hE
            replace hTr_w49 := hTr_w49.trans (Kp.ext hE)
            replace hP := hP.ext hE
            replace hTr_w64 := hTr_w64.trans (Kp.ext hE)
            replace hLy := hLy.ext hE
            replace hTr_w79 := hTr_w79.trans (Kp.ext hE)
            replace hS0p := hS0p.ext hE
            replace hS1p := hS1p.ext hE
            replace hTr_w94 := hTr_w94.trans (Kp.ext hE)
            replace hS0q := hS0q.ext hE
            replace hS1q := hS1q.ext hE
            replace hTr_w103 := hTr_w103.trans (Kp.ext hE)
            replace hS0r := hS0r.ext hE
            replace hS1r := hS1r.ext hE
            replace hTr_w112 := hTr_w112.trans (Kp.ext hE)
            refine oblK_n (want_t rfl (rfl)) ?_
            refine opk_norm [(127, .bool (true)), (128, .slice ((some ⟨bsr, 0, none⟩)) 2 2)] ⟨rfl, rfl, trivial⟩ (fun ρq => ?_)
            refine o_idxAt 0 rfl rfl Tryd.underlying33 Tryd.sizeOf24 rfl rfl (by decide) ?_
            exact ⟨Kp.refl _ _, rfl⟩
          · refine oblK_post rfl rfl (fun w119k vs lo hi hE hkn hap => ?_)
            have hEs := hE.size
            replace hK := hK.trans (Kp.ext hE)
            replace hB6 := hB6.ext hE
            replace hB42 := hB42.ext hE
            replace hB57 := hB57.ext hE
            replace hB72 := hB72.ext hE
            replace hB87 := hB87.ext hE
            replace hBsp := hBsp.ext hE
            replace hBsq := hBsq.ext hE
            replace hBsr := hBsr.ext hE
            replace hT := hT.ext hE
            replace hR0 := hR0.ext hE
            replace hR1 := hR1.ext hE
            replace hR := hR.ext hE
            replace hF0f := hF0f.ext hE
            replace hF1f := hF1f.ext hE
            replace hTr_w34 := hTr_w34.trans (Kp.ext hE)
            replace hLz := hLz.ext hE
            replace hTr_w49 := hTr_w49.trans (Kp.ext hE)
            replace hP := hP.ext hE
            replace hTr_w64 := hTr_w64.trans (Kp.ext hE)
            replace hLy := hLy.ext hE
            replace hTr_w79 := hTr_w79.trans (Kp.ext hE)
            replace hS0p := hS0p.ext hE
            replace hS1p := hS1p.ext hE
            replace hTr_w94 := hTr_w94.trans (Kp.ext hE)
            replace hS0q := hS0q.ext hE
            replace hS1q := hS1q.ext hE
            replace hTr_w103 := hTr_w103.trans (Kp.ext hE)
            replace hS0r := hS0r.ext hE
            replace hS1r := hS1r.ext hE
            replace hTr_w112 := hTr_w112.trans (Kp.ext hE)
            refine oblK_n (want_t rfl (rfl)) ?_
            refine opk_norm [(127, .bool (true)), (129, .pointer (some ⟨bsr, 0, none⟩))] ⟨rfl, rfl, trivial⟩ (fun ρq => ?_)
            refine o_loadB (v := .slice as0r s0.length cs0r) rfl hBsr tyS24 rfl ?_
            exact ⟨Kp.refl _ _, rfl⟩
          · refine oblK_post rfl rfl (fun w119k vs lo hi hE hkn hap => ?_)
            have hEs := hE.size
            replace hK := hK.trans (Kp.ext hE)
            replace hB6 := hB6.ext hE
            replace hB42 := hB42.ext hE
            replace hB57 := hB57.ext hE
            replace hB72 := hB72.ext hE
            replace hB87 := hB87.ext hE
            replace hBsp := hBsp.ext hE
            replace hBsq := hBsq.ext hE
            replace hBsr := hBsr.ext hE
            replace hT := hT.ext hE
            replace hR0 := hR0.ext hE
            replace hR1 := hR1.ext hE
            replace hR := hR.ext hE
            replace hF0f := hF0f.ext hE
            replace hF1f := hF1f.ext hE
            replace hTr_w34 := hTr_w34.trans (Kp.ext hE)
            replace hLz := hLz.ext hE
            replace hTr_w49 := hTr_w49.trans (Kp.ext hE)
            replace hP := hP.ext hE
            replace hTr_w64 := hTr_w64.trans (Kp.ext hE)
            replace hLy := hLy.ext hE
            replace hTr_w79 := hTr_w79.trans (Kp.ext hE)
            replace hS0p := hS0p.ext hE
            replace hS1p := hS1p.ext hE
            replace hTr_w94 := hTr_w94.trans (Kp.ext hE)
            replace hS0q := hS0q.ext hE
            replace hS1q := hS1q.ext hE
            replace hTr_w103 := hTr_w103.trans (Kp.ext hE)
            replace hS0r := hS0r.ext hE
            replace hS1r := hS1r.ext hE
            replace hTr_w112 := hTr_w112.trans (Kp.ext hE)
            refine oblK_n (want_t rfl (rfl)) ?_
            refine opk_norm [(127, .bool (true)), (130, .slice as0r s0.length cs0r)] ⟨rfl, rfl, trivial⟩ (fun ρq => ?_)
            refine o_strOf (xs := s0) rfl Tryd.underlying24 Tryd.underlying5 Tryd.underlying9 hS0r ?_
            exact ⟨Kp.refl _ _, rfl⟩
          · refine oblK_post rfl rfl (fun w119k vs lo hi hE hkn hap => ?_)
            have hEs := hE.size
            replace hK := hK.trans (Kp.ext hE)
            replace hB6 := hB6.ext hE
            replace hB42 := hB42.ext hE
            replace hB57 := hB57.ext hE
            replace hB72 := hB72.ext hE
            replace hB87 := hB87.ext hE
            replace hBsp := hBsp.ext hE
            replace hBsq := hBsq.ext hE
            replace hBsr := hBsr.ext hE
            replace hT := hT.ext hE
            replace hR0 := hR0.ext hE
            replace hR1 := hR1.ext hE
            replace hR := hR.ext hE
            replace hF0f := hF0f.ext hE
            replace hF1f := hF1f.ext hE
            replace hTr_w34 := hTr_w34.trans (Kp.ext hE)
            replace hLz := hLz.ext hE
            replace hTr_w49 := hTr_w49.trans (Kp.ext hE)
            replace hP := hP.ext hE
            replace hTr_w64 := hTr_w64.trans (Kp.ext hE)
            replace hLy := hLy.ext hE
            replace hTr_w79 := hTr_w79.trans (Kp.ext hE)
            replace hS0p := hS0p.ext hE
            replace hS1p := hS1p.ext hE
            replace hTr_w94 := hTr_w94.trans (Kp.ext hE)
            replace hS0q := hS0q.ext hE
            replace hS1q := hS1q.ext hE
            replace hTr_w103 := hTr_w103.trans (Kp.ext hE)
            replace hS0r := hS0r.ext hE
            replace hS1r := hS1r.ext hE
            replace hTr_w112 := hTr_w112.trans (Kp.ext hE)
            refine oblK_n (want_t rfl (rfl)) ?_
            refine opk_norm [(0, .slice a0 s0.length p0), (127, .bool (true))] ⟨rfl, rfl, trivial⟩ (fun ρq => ?_)
            refine o_move (v := .slice a0 s0.length p0) rfl ?_
            exact ⟨Kp.refl _ _, rfl⟩
          · refine oblK_post rfl rfl (fun w119k vs lo hi hE hkn hap => ?_)
            have hEs := hE.size
            replace hK := hK.trans (Kp.ext hE)
            replace hB6 := hB6.ext hE
            replace hB42 := hB42.ext hE
            replace hB57 := hB57.ext hE
            replace hB72 := hB72.ext hE
            replace hB87 := hB87.ext hE
            replace hBsp := hBsp.ext hE
            replace hBsq := hBsq.ext hE
            replace hBsr := hBsr.ext hE
            replace hT := hT.ext hE
            replace hR0 := hR0.ext hE
            replace hR1 := hR1.ext hE
            replace hR := hR.ext hE
            replace hF0f := hF0f.ext hE
            replace hF1f := hF1f.ext hE
            replace hTr_w34 := hTr_w34.trans (Kp.ext hE)
            replace hLz := hLz.ext hE
            replace hTr_w49 := hTr_w49.trans (Kp.ext hE)
            replace hP := hP.ext hE
            replace hTr_w64 := hTr_w64.trans (Kp.ext hE)
            replace hLy := hLy.ext hE
            replace hTr_w79 := hTr_w79.trans (Kp.ext hE)
            replace hS0p := hS0p.ext hE
            replace hS1p := hS1p.ext hE
            replace hTr_w94 := hTr_w94.trans (Kp.ext hE)
            replace hS0q := hS0q.ext hE
            replace hS1q := hS1q.ext hE
            replace hTr_w103 := hTr_w103.trans (Kp.ext hE)
            replace hS0r := hS0r.ext hE
            replace hS1r := hS1r.ext hE
            replace hTr_w112 := hTr_w112.trans (Kp.ext hE)
            refine oblK_n (want_t rfl (rfl)) ?_
            refine opk_norm [(127, .bool (true)), (132, .slice a0 s0.length p0)] ⟨rfl, rfl, trivial⟩ (fun ρq => ?_)
            refine o_strOf (xs := s0) rfl Tryd.underlying24 Tryd.underlying5 Tryd.underlying9 hR0 ?_
            exact ⟨Kp.refl _ _, rfl⟩
          · refine oblK_post rfl rfl (fun w119k vs lo hi hE hkn hap => ?_)
            have hEs := hE.size
            replace hK := hK.trans (Kp.ext hE)
            replace hB6 := hB6.ext hE
            replace hB42 := hB42.ext hE
            replace hB57 := hB57.ext hE
            replace hB72 := hB72.ext hE
            replace hB87 := hB87.ext hE
            replace hBsp := hBsp.ext hE
            replace hBsq := hBsq.ext hE
            replace hBsr := hBsr.ext hE
            replace hT := hT.ext hE
            replace hR0 := hR0.ext hE
            replace hR1 := hR1.ext hE
            replace hR := hR.ext hE
            replace hF0f := hF0f.ext hE
            replace hF1f := hF1f.ext hE
            replace hTr_w34 := hTr_w34.trans (Kp.ext hE)
            replace hLz := hLz.ext hE
            replace hTr_w49 := hTr_w49.trans (Kp.ext hE)
            replace hP := hP.ext hE
            replace hTr_w64 := hTr_w64.trans (Kp.ext hE)
            replace hLy := hLy.ext hE
            replace hTr_w79 := hTr_w79.trans (Kp.ext hE)
            replace hS0p := hS0p.ext hE
            replace hS1p := hS1p.ext hE
            replace hTr_w94 := hTr_w94.trans (Kp.ext hE)
            replace hS0q := hS0q.ext hE
            replace hS1q := hS1q.ext hE
            replace hTr_w103 := hTr_w103.trans (Kp.ext hE)
            replace hS0r := hS0r.ext hE
            replace hS1r := hS1r.ext hE
            replace hTr_w112 := hTr_w112.trans (Kp.ext hE)
            refine oblK_n (want_t rfl (rfl)) ?_
            refine opk_norm [(127, .bool (true)), (131, .string (strOf s0)), (133, .string (strOf s0))] ⟨rfl, rfl, rfl, trivial⟩ (fun ρq => ?_)
            refine o_eqSt (a := strOf s0) rfl rfl rfl ?_
            exact ⟨Kp.refl _ _, rfl⟩
          · refine oblK_post rfl rfl (fun w119k vs lo hi hE hkn hap => ?_)
            have hEs := hE.size
            replace hK := hK.trans (Kp.ext hE)
            replace hB6 := hB6.ext hE
            replace hB42 := hB42.ext hE
            replace hB57 := hB57.ext hE
            replace hB72 := hB72.ext hE
            replace hB87 := hB87.ext hE
            replace hBsp := hBsp.ext hE
            replace hBsq := hBsq.ext hE
            replace hBsr := hBsr.ext hE
            replace hT := hT.ext hE
            replace hR0 := hR0.ext hE
            replace hR1 := hR1.ext hE
            replace hR := hR.ext hE
            replace hF0f := hF0f.ext hE
            replace hF1f := hF1f.ext hE
            replace hTr_w34 := hTr_w34.trans (Kp.ext hE)
            replace hLz := hLz.ext hE
            replace hTr_w49 := hTr_w49.trans (Kp.ext hE)
            replace hP := hP.ext hE
            replace hTr_w64 := hTr_w64.trans (Kp.ext hE)
            replace hLy := hLy.ext hE
            replace hTr_w79 := hTr_w79.trans (Kp.ext hE)
            replace hS0p := hS0p.ext hE
            replace hS1p := hS1p.ext hE
            replace hTr_w94 := hTr_w94.trans (Kp.ext hE)
            replace hS0q := hS0q.ext hE
            replace hS1q := hS1q.ext hE
            replace hTr_w103 := hTr_w103.trans (Kp.ext hE)
            replace hS0r := hS0r.ext hE
            replace hS1r := hS1r.ext hE
            replace hTr_w112 := hTr_w112.trans (Kp.ext hE)
            refine oblK_n rfl ?_
            refine opk_norm [(127, .bool (true)), (134, .bool (true))] ⟨rfl, rfl, trivial⟩ (fun ρq => ?_)
            refine o_pickT (v := .bool (true)) rfl (rfl) rfl ?_
            exact ⟨Kp.refl _ _, rfl⟩
          · refine oblK_post rfl rfl (fun w119k vs lo hi hE hkn hap => ?_)
            have hEs := hE.size
            replace hK := hK.trans (Kp.ext hE)
            replace hB6 := hB6.ext hE
            replace hB42 := hB42.ext hE
            replace hB57 := hB57.ext hE
            replace hB72 := hB72.ext hE
            replace hB87 := hB87.ext hE
            replace hBsp := hBsp.ext hE
            replace hBsq := hBsq.ext hE
            replace hBsr := hBsr.ext hE
            replace hT := hT.ext hE
            replace hR0 := hR0.ext hE
            replace hR1 := hR1.ext hE
            replace hR := hR.ext hE
            replace hF0f := hF0f.ext hE
            replace hF1f := hF1f.ext hE
            replace hTr_w34 := hTr_w34.trans (Kp.ext hE)
            replace hLz := hLz.ext hE
            replace hTr_w49 := hTr_w49.trans (Kp.ext hE)
            replace hP := hP.ext hE
            replace hTr_w64 := hTr_w64.trans (Kp.ext hE)
            replace hLy := hLy.ext hE
            replace hTr_w79 := hTr_w79.trans (Kp.ext hE)
            replace hS0p := hS0p.ext hE
            replace hS1p := hS1p.ext hE
            replace hTr_w94 := hTr_w94.trans (Kp.ext hE)
            replace hS0q := hS0q.ext hE
            replace hS1q := hS1q.ext hE
            replace hTr_w103 := hTr_w103.trans (Kp.ext hE)
            replace hS0r := hS0r.ext hE
            replace hS1r := hS1r.ext hE
            replace hTr_w112 := hTr_w112.trans (Kp.ext hE)
            refine oblK_n rfl ?_
            refine opk_norm [(135, .bool (true))] ⟨rfl, trivial⟩ (fun ρq => ?_)
            refine o_move (v := .bool (true)) rfl ?_
            exact ⟨Kp.refl _ _, rfl⟩
          · refine oblK_post rfl rfl (fun w119k vs lo hi hE hkn hap => ?_)
            have hEs := hE.size
            replace hK := hK.trans (Kp.ext hE)
            replace hB6 := hB6.ext hE
            replace hB42 := hB42.ext hE
            replace hB57 := hB57.ext hE
            replace hB72 := hB72.ext hE
            replace hB87 := hB87.ext hE
            replace hBsp := hBsp.ext hE
            replace hBsq := hBsq.ext hE
            replace hBsr := hBsr.ext hE
            replace hT := hT.ext hE
            replace hR0 := hR0.ext hE
            replace hR1 := hR1.ext hE
            replace hR := hR.ext hE
            replace hF0f := hF0f.ext hE
            replace hF1f := hF1f.ext hE
            replace hTr_w34 := hTr_w34.trans (Kp.ext hE)
            replace hLz := hLz.ext hE
            replace hTr_w49 := hTr_w49.trans (Kp.ext hE)
            replace hP := hP.ext hE
            replace hTr_w64 := hTr_w64.trans (Kp.ext hE)
            replace hLy := hLy.ext hE
            replace hTr_w79 := hTr_w79.trans (Kp.ext hE)
            replace hS0p := hS0p.ext hE
            replace hS1p := hS1p.ext hE
            replace hTr_w94 := hTr_w94.trans (Kp.ext hE)
            replace hS0q := hS0q.ext hE
            replace hS1q := hS1q.ext hE
            replace hTr_w103 := hTr_w103.trans (Kp.ext hE)
            replace hS0r := hS0r.ext hE
            replace hS1r := hS1r.ext hE
            replace hTr_w112 := hTr_w112.trans (Kp.ext hE)
            refine oblK_n (want_t rfl (rfl)) ?_
            refine opk_norm [(21, .slice ((some ⟨bsr, 0, none⟩)) 2 2), (136, .bool (true))] ⟨rfl, rfl, trivial⟩ (fun ρq => ?_)
            refine o_move (v := .slice ((some ⟨bsr, 0, none⟩)) 2 2) rfl ?_
            exact ⟨Kp.refl _ _, rfl⟩
          · refine oblK_post rfl rfl (fun w119k vs lo hi hE hkn hap => ?_)
            have hEs := hE.size
            replace hK := hK.trans (Kp.ext hE)
            replace hB6 := hB6.ext hE
            replace hB42 := hB42.ext hE
            replace hB57 := hB57.ext hE
            replace hB72 := hB72.ext hE
            replace hB87 := hB87.ext hE
            replace hBsp := hBsp.ext hE
            replace hBsq := hBsq.ext hE
            replace hBsr := hBsr.ext hE
            replace hT := hT.ext hE
            replace hR0 := hR0.ext hE
            replace hR1 := hR1.ext hE
            replace hR := hR.ext hE
            replace hF0f := hF0f.ext hE
            replace hF1f := hF1f.ext hE
            replace hTr_w34 := hTr_w34.trans (Kp.ext hE)
            replace hLz := hLz.ext hE
            replace hTr_w49 := hTr_w49.trans (Kp.ext hE)
            replace hP := hP.ext hE
            replace hTr_w64 := hTr_w64.trans (Kp.ext hE)
            replace hLy := hLy.ext hE
            replace hTr_w79 := hTr_w79.trans (Kp.ext hE)
            replace hS0p := hS0p.ext hE
            replace hS1p := hS1p.ext hE
            replace hTr_w94 := hTr_w94.trans (Kp.ext hE)
            replace hS0q := hS0q.ext hE
            replace hS1q := hS1q.ext hE
            replace hTr_w103 := hTr_w103.trans (Kp.ext hE)
            replace hS0r := hS0r.ext hE
            replace hS1r := hS1r.ext hE
            replace hTr_w112 := hTr_w112.trans (Kp.ext hE)
            refine oblK_n (want_t rfl (rfl)) ?_
            refine opk_norm [(136, .bool (true)), (137, .slice ((some ⟨bsr, 0, none⟩)) 2 2)] ⟨rfl, rfl, trivial⟩ (fun ρq => ?_)
            refine o_idxAt 1 rfl rfl Tryd.underlying33 Tryd.sizeOf24 rfl rfl (by decide) ?_
            exact ⟨Kp.refl _ _, rfl⟩
          · refine oblK_post rfl rfl (fun w119k vs lo hi hE hkn hap => ?_)
            have hEs := hE.size
            replace hK := hK.trans (Kp.ext hE)
            replace hB6 := hB6.ext hE
            replace hB42 := hB42.ext hE
            replace hB57 := hB57.ext hE
            replace hB72 := hB72.ext hE
            replace hB87 := hB87.ext hE
            replace hBsp := hBsp.ext hE
            replace hBsq := hBsq.ext hE
            replace hBsr := hBsr.ext hE
            replace hT := hT.ext hE
            replace hR0 := hR0.ext hE
            replace hR1 := hR1.ext hE
            replace hR := hR.ext hE
            replace hF0f := hF0f.ext hE
            replace hF1f := hF1f.ext hE
            replace hTr_w34 := hTr_w34.trans (Kp.ext hE)
            replace hLz := hLz.ext hE
            replace hTr_w49 := hTr_w49.trans (Kp.ext hE)
            replace hP := hP.ext hE
            replace hTr_w64 := hTr_w64.trans (Kp.ext hE)
            replace hLy := hLy.ext hE
            replace hTr_w79 := hTr_w79.trans (Kp.ext hE)
            replace hS0p := hS0p.ext hE
            replace hS1p := hS1p.ext hE
            replace hTr_w94 := hTr_w94.trans (Kp.ext hE)
            replace hS0q := hS0q.ext hE
            replace hS1q := hS1q.ext hE
            replace hTr_w103 := hTr_w103.trans (Kp.ext hE)
            replace hS0r := hS0r.ext hE
            replace hS1r := hS1r.ext hE
            replace hTr_w112 := hTr_w112.trans (Kp.ext hE)
            refine oblK_n (want_t rfl (rfl)) ?_
            refine opk_norm [(136, .bool (true)), (138, .pointer (some ⟨bsr, 1, none⟩))] ⟨rfl, rfl, trivial⟩ (fun ρq => ?_)
            refine o_loadB (v := .slice as1r s1.length cs1r) rfl hBsr tyS24 rfl ?_
            exact ⟨Kp.refl _ _, rfl⟩
          · refine oblK_post rfl rfl (fun w119k vs lo hi hE hkn hap => ?_)
            have hEs := hE.size
            replace hK := hK.trans (Kp.ext hE)
            replace hB6 := hB6.ext hE
            replace hB42 := hB42.ext hE
            replace hB57 := hB57.ext hE
            replace hB72 := hB72.ext hE
            replace hB87 := hB87.ext hE
            replace hBsp := hBsp.ext hE
            replace hBsq := hBsq.ext hE
            replace hBsr := hBsr.ext hE
            replace hT := hT.ext hE
            replace hR0 := hR0.ext hE
            replace hR1 := hR1.ext hE
            replace hR := hR.ext hE
            replace hF0f := hF0f.ext hE
            replace hF1f := hF1f.ext hE
            replace hTr_w34 := hTr_w34.trans (Kp.ext hE)
            replace hLz := hLz.ext hE
            replace hTr_w49 := hTr_w49.trans (Kp.ext hE)
            replace hP := hP.ext hE
            replace hTr_w64 := hTr_w64.trans (Kp.ext hE)
            replace hLy := hLy.ext hE
            replace hTr_w79 := hTr_w79.trans (Kp.ext hE)
            replace hS0p := hS0p.ext hE
            replace hS1p := hS1p.ext hE
            replace hTr_w94 := hTr_w94.trans (Kp.ext hE)
            replace hS0q := hS0q.ext hE
            replace hS1q := hS1q.ext hE
            replace hTr_w103 := hTr_w103.trans (Kp.ext hE)
            replace hS0r := hS0r.ext hE
            replace hS1r := hS1r.ext hE
            replace hTr_w112 := hTr_w112.trans (Kp.ext hE)
            refine oblK_n (want_t rfl (rfl)) ?_
            refine opk_norm [(136, .bool (true)), (139, .slice as1r s1.length cs1r)] ⟨rfl, rfl, trivial⟩ (fun ρq => ?_)
            refine o_strOf (xs := s1) rfl Tryd.underlying24 Tryd.underlying5 Tryd.underlying9 hS1r ?_
            exact ⟨Kp.refl _ _, rfl⟩
          · refine oblK_post rfl rfl (fun w119k vs lo hi hE hkn hap => ?_)
            have hEs := hE.size
            replace hK := hK.trans (Kp.ext hE)
            replace hB6 := hB6.ext hE
            replace hB42 := hB42.ext hE
            replace hB57 := hB57.ext hE
            replace hB72 := hB72.ext hE
            replace hB87 := hB87.ext hE
            replace hBsp := hBsp.ext hE
            replace hBsq := hBsq.ext hE
            replace hBsr := hBsr.ext hE
            replace hT := hT.ext hE
            replace hR0 := hR0.ext hE
            replace hR1 := hR1.ext hE
            replace hR := hR.ext hE
            replace hF0f := hF0f.ext hE
            replace hF1f := hF1f.ext hE
            replace hTr_w34 := hTr_w34.trans (Kp.ext hE)
            replace hLz := hLz.ext hE
            replace hTr_w49 := hTr_w49.trans (Kp.ext hE)
            replace hP := hP.ext hE
            replace hTr_w64 := hTr_w64.trans (Kp.ext hE)
            replace hLy := hLy.ext hE
            replace hTr_w79 := hTr_w79.trans (Kp.ext hE)
            replace hS0p := hS0p.ext hE
            replace hS1p := hS1p.ext hE
            replace hTr_w94 := hTr_w94.trans (Kp.ext hE)
            replace hS0q := hS0q.ext hE
            replace hS1q := hS1q.ext hE
            replace hTr_w103 := hTr_w103.trans (Kp.ext hE)
            replace hS0r := hS0r.ext hE
            replace hS1r := hS1r.ext hE
            replace hTr_w112 := hTr_w112.trans (Kp.ext hE)
            refine oblK_n (want_t rfl (rfl)) ?_
            refine opk_norm [(1, .slice a1 s1.length p1), (136, .bool (true))] ⟨rfl, rfl, trivial⟩ (fun ρq => ?_)
            refine o_move (v := .slice a1 s1.length p1) rfl ?_
            exact ⟨Kp.refl _ _, rfl⟩
          · refine oblK_post rfl rfl (fun w119k vs lo hi hE hkn hap => ?_)
            have hEs := hE.size
            replace hK := hK.trans (Kp.ext hE)
            replace hB6 := hB6.ext hE
            replace hB42 := hB42.ext hE
            replace hB57 := hB57.ext hE
            replace hB72 := hB72.ext hE
            replace hB87 := hB87.ext hE
            replace hBsp := hBsp.ext hE
            replace hBsq := hBsq.ext hE
            replace hBsr := hBsr.ext hE
            replace hT := hT.ext hE
            replace hR0 := hR0.ext hE
            replace hR1 := hR1.ext hE
            replace hR := hR.ext hE
            replace hF0f := hF0f.ext hE
            replace hF1f := hF1f.ext hE
            replace hTr_w34 := hTr_w34.trans (Kp.ext hE)
            replace hLz := hLz.ext hE
            replace hTr_w49 := hTr_w49.trans (Kp.ext hE)
            replace hP := hP.ext hE
            replace hTr_w64 := hTr_w64.trans (Kp.ext hE)
            replace hLy := hLy.ext hE
            replace hTr_w79 := hTr_w79.trans (Kp.ext hE)
            replace hS0p := hS0p.ext hE
            replace hS1p := hS1p.ext hE
            replace hTr_w94 := hTr_w94.trans (Kp.ext hE)
            replace hS0q := hS0q.ext hE
            replace hS1q := hS1q.ext hE
            replace hTr_w103 := hTr_w103.trans (Kp.ext hE)
            replace hS0r := hS0r.ext hE
            replace hS1r := hS1r.ext hE
            replace hTr_w112 := hTr_w112.trans (Kp.ext hE)
            refine oblK_n (want_t rfl (rfl)) ?_
            refine opk_norm [(136, .bool (true)), (141, .slice a1 s1.length p1)] ⟨rfl, rfl, trivial⟩ (fun ρq => ?_)
            refine o_strOf (xs := s1) rfl Tryd.underlying24 Tryd.underlying5 Tryd.underlying9 hR1 ?_
            exact ⟨Kp.refl _ _, rfl⟩
          have hsE1 := hE123.size
          replace hK := hK.trans (Kp.ext hE123)
          replace hB6 := hB6.ext hE123
          replace hB42 := hB42.ext hE123
          replace hB57 := hB57.ext hE123
          replace hB72 := hB72.ext hE123
          replace hB87 := hB87.ext hE123
          replace hBsp := hBsp.ext hE123
          replace hBsq := hBsq.ext hE123
          replace hBsr := hBsr.ext hE123
          replace hT := hT.ext hE123
          replace hR0 := hR0.ext hE123
          replace hR1 := hR1.ext hE123
          replace hR := hR.ext hE123
          replace hF0f := hF0f.ext hE123
          replace hF1f := hF1f.ext hE123
          replace hTr_w34 := hTr_w34.trans (Kp.ext hE123)
          replace hLz := hLz.ext hE123
          replace hTr_w49 := hTr_w49.trans (Kp.ext hE123)
          replace hP := hP.ext hE123
          replace hTr_w64 := hTr_w64.trans (Kp.ext hE123)
          replace hLy := hLy.ext hE123
          replace hTr_w79 := hTr_w79.trans (Kp.ext hE123)
          replace hS0p := hS0p.ext hE123
          replace hS1p := hS1p.ext hE123
          replace hTr_w94 := hTr_w94.trans (Kp.ext hE123)
          replace hS0q := hS0q.ext hE123
          replace hS1q := hS1q.ext hE123
          replace hTr_w103 := hTr_w103.trans (Kp.ext hE123)
          replace hS0r := hS0r.ext hE123
          replace hS1r := hS1r.ext hE123
          replace hTr_w112 := hTr_w112.trans (Kp.ext hE123)
          refine rl_norm [(136, .bool (true)), (140, .string (strOf s1)), (142, .string (strOf s1))] ⟨rfl, rfl, rfl, trivial⟩ (fun ρr118q => ?_)
          refine rl (o_eqSt (a := strOf s1) rfl rfl rfl ?_) (want_t rfl (rfl))
          refine rl (o_pickT (v := .bool (true)) rfl (rfl) rfl ?_) rfl
          refine rl (o_assign (v := .bool (true)) rfl ?_) rfl
          refine rl_nil ?_
          refine cw_ret ?_
          refine ret_intro (v := .bool (true)) (res_ok (vs := [.bool (true)]) rfl ⟨rfl, trivial⟩) hK ?_
          exact rfl
end Go.Proofs.YtcmlklnelipacaaDoor

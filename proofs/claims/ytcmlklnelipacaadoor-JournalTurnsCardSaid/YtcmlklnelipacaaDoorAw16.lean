import Derived.Test.YtcmlklnelipacaaDoorTo
import Derived.Test.YtcmlklnelipacaaDoorLogK
import Derived.Test.YtcmlklnelipacaaDoorMend
set_option linter.unusedVariables false
set_option linter.unusedSimpArgs false
set_option maxRecDepth 100000
namespace Go.Proofs.YtcmlklnelipacaaDoor
open Go.RowKit Plain

theorem jput_len (l : Ledger) (sq : Int) (hn : l.l.length ≤ 1000) : (jput crcOf l sq).length ≤ 200000 := by
  have h := jrows_len l sq hn
  have e : jput crcOf l sq = sealB crcOf (join (jrows l sq)) := rfl
  rw [e]; simp only [sealB, List.length_append, leB_length]; omega
set_option maxHeartbeats 8000000 in
theorem awake16_ok  (w : World) (hT : Tab w) :
    Calls Tryd.prog 6 #[] w (Ret Non w fun v w' => v = .bool true) := by
  have hK := Kp.refl Non w
  have h00 := hT.1
  obtain ⟨X1, hX1⟩ : ∃ X, jput crcOf ⟨9, 0, 0, [⟨3, 4⟩]⟩ 1 = X := ⟨_, rfl⟩
  have hB1 : isB X1 := hX1 ▸ isB_jput _ _
  have hN1 : X1.length ≤ 200000 := hX1 ▸ jput_len _ _ (by decide)
  have hj0 : jload crcOf ⟨[], [], 0, [], false⟩ = (.zero, 0) := jload_short isB_nil isB_nil (by decide) (by decide)
  have hj1 : jload crcOf ⟨[], X1, 1, [], true⟩ = (⟨9, 0, 0, [⟨3, 4⟩]⟩, 1) := hX1 ▸ jload_first isB_nil (by decide) (by decide) (by decide)
  obtain ⟨T1, hT1⟩ : ∃ X, (if true = false ∨ (X1.length : Int) ≤ max 5 0 then X1 else X1.take (max 5 0 : Int).toNat ++ ([] : List Int).drop (min (max 5 0) ((([] : List Int).length : Nat) : Int)).toNat) = X := ⟨_, rfl⟩
  have hBT : isB T1 := by
    rw [← hT1]; split
    · exact hB1
    · exact isB_append (isB_take hB1 _) (isB_drop isB_nil _)
  have hLT : T1.length ≤ 15 := by
    rw [← hT1]; split
    · rename_i h; rcases h with h | h
      · cases h
      · omega
    · simp; omega
  have hj2 : jload crcOf ⟨[], T1, 1, [], true⟩ = (.zero, 0) := jload_short isB_nil hBT (by decide) hLT
  refine calls_cw Tryd.func6 rfl (Nat.le_of_ble_eq_true rfl) ?_
  refine cw_seq ?_
  refine cw_region rfl ?_
  refine rl (o_assign (v := .bool (false)) rfl ?_) rfl
  refine rl_nil ?_
  refine k_tn ?_
  refine cw_norm [] trivial (fun ρn1 => ?_)
  refine cw_seq ?_
  refine cw_region rfl ?_
  refine rl (o_build (cs := [.int .i64 (3), .int .i64 (4)]) bt57 rfl ?_) rfl
  refine rl (o_buildSlice (vs := [.agg #[.int .i64 (3), .int .i64 (4)]]) (n := 1) rfl Tryd.underlying30 elt57 rfl rfl (Nat.le_of_ble_eq_true rfl) (fun b2 w3 hb4 hz5 hk6 hB7 => ?_)) rfl
  replace hB7 : Box w3 b2 [.int .i64 (3), .int .i64 (4)] 57 := hB7
  have hs_b2 := hK.size
  replace hK := hK.trans (Kp.ext hk6)
  replace hT := hT.ext hk6
  refine rl (o_build (cs := [.int .i64 (9), .int .i64 (0), .int .i64 (0), .slice ((some ⟨b2, 0, none⟩)) 1 1]) bt32 rfl ?_) rfl
  refine rl (o_alloc Tryd.zeroValue32 (fun b8 w9 hb10 hz11 hk12 hB13 => ?_)) rfl
  replace hB13 : Box w9 b8 [.int .i64 (0), .int .i64 (0), .int .i64 (0), .slice none 0 0] 32 := hB13
  have hs_b8 := hK.size
  have hl_b2_b8 := hB7.lt
  replace hK := hK.trans (Kp.ext hk12)
  replace hB7 := hB7.ext hk12
  replace hT := hT.ext hk12
  refine rl0 (o_storeA (vs := [.int .i64 (9), .int .i64 (0), .int .i64 (0), .slice ((some ⟨b2, 0, none⟩)) 1 1]) rfl rfl hB13 tyA32 rfl rfl (Nat.le_of_ble_eq_true rfl) (fun w14 hk15 hz16 hB17 => ?_)) rfl
  replace hB17 : Box w14 b8 [.int .i64 (9), .int .i64 (0), .int .i64 (0), .slice ((some ⟨b2, 0, none⟩)) 1 1] 32 := hB17
  replace hK := hK.later hk15 (fun i hi hS => by have h1 : i = b8 := hS; omega)
  replace hB7 := hB7.kp hk15 (by show ¬ b2 = b8; omega)
  replace hT := hT.kp hk15 (fun h => by have h2 : (0 : Nat) = b8 := h; omega)
  replace hB13 := hB17
  refine rl_nil ?_
  refine k_tn ?_
  refine cw_norm [(1, .pointer (some ⟨b8, 0, none⟩))] ⟨rfl, trivial⟩ (fun ρn18 => ?_)
  have hl_b2_d1 := hB7.lt
  have hl_b8_d1 := hB13.lt
  refine cw_norm [(1, .pointer (some ⟨b8, 0, none⟩))] ⟨rfl, trivial⟩ (fun ρr33 => ?_)
  have hsr1 := hK.size
  refine cw_drawnK (fun _ => False) 5 [.fact (fun c wq => (cv c 0) = .agg #[.slice (sAo (tAt (cv c 0) 0)) 0 (sCap (tAt (cv c 0) 0)), .slice (sAo (tAt (cv c 0) 1)) 0 (sCap (tAt (cv c 0) 1)), .int .i64 (0), .slice none 0 0, .bool (false)] ∧ (w14.heap.size ≤ (ca c 0)) ∧ (Rd (fun b => (ca c 0) ≤ b ∧ b < (ce c 0)) wq 1 (.slice (sAo (tAt (cv c 0) 0)) 0 (sCap (tAt (cv c 0) 0))) ((([] : List Int)).map encB)) ∧ (Rd (fun b => (ca c 0) ≤ b ∧ b < (ce c 0)) wq 1 (.slice (sAo (tAt (cv c 0) 1)) 0 (sCap (tAt (cv c 0) 1))) ((([] : List Int)).map encB))), .val (.agg #[.int .i64 (9), .int .i64 (0), .int .i64 (0), .slice ((some ⟨b2, 0, none⟩)) 1 1]), .fact (fun c wq => (cv c 0) = .agg #[.slice (sAo (tAt (cv c 1) 0)) 0 (sCap (tAt (cv c 1) 0)), .slice (sAo (tAt (cv c 0) 1)) X1.length (sCap (tAt (cv c 0) 1)), .int .i64 (1), .slice (sAo (tAt (cv c 1) 1)) 0 (sCap (tAt (cv c 1) 1)), .bool (true)] ∧ (w14.heap.size ≤ (ca c 0)) ∧ (Rd (fun b => (ca c 0) ≤ b ∧ b < (ce c 0)) wq 1 (.slice (sAo (tAt (cv c 0) 1)) X1.length (sCap (tAt (cv c 0) 1))) ((X1).map encB))), .fact (fun c wq => (cv c 0) = .pointer (some ⟨(pBlk (cv c 0)), 0, none⟩) ∧ (w14.heap.size ≤ (ca c 0)) ∧ ((ca c 0) ≤ (pBlk (cv c 0)) ∧ (pBlk (cv c 0)) < (ce c 0)) ∧ (Box wq (pBlk (cv c 0)) [.slice none 0 0, .slice none 0 0, .int .i64 (0), .slice none 0 0, .bool (false)] 27))] [.fact (fun c wq => (cv c 0) = .agg #[.slice (sAo (tAt (cv c 0) 0)) 0 (sCap (tAt (cv c 0) 0)), .slice (sAo (tAt (cv c 0) 1)) 0 (sCap (tAt (cv c 0) 1)), .int .i64 (0), .slice none 0 0, .bool (false)] ∧ (w14.heap.size ≤ (ca c 0)) ∧ (Rd (fun b => (ca c 0) ≤ b ∧ b < (ce c 0)) wq 1 (.slice (sAo (tAt (cv c 0) 0)) 0 (sCap (tAt (cv c 0) 0))) ((([] : List Int)).map encB)) ∧ (Rd (fun b => (ca c 0) ≤ b ∧ b < (ce c 0)) wq 1 (.slice (sAo (tAt (cv c 0) 1)) 0 (sCap (tAt (cv c 0) 1))) ((([] : List Int)).map encB))), .val (.agg #[.int .i64 (9), .int .i64 (0), .int .i64 (0), .slice ((some ⟨b2, 0, none⟩)) 1 1]), .fact (fun c wq => (cv c 0) = .agg #[.slice (sAo (tAt (cv c 1) 0)) 0 (sCap (tAt (cv c 1) 0)), .slice (sAo (tAt (cv c 0) 1)) X1.length (sCap (tAt (cv c 0) 1)), .int .i64 (1), .slice (sAo (tAt (cv c 1) 1)) 0 (sCap (tAt (cv c 1) 1)), .bool (true)] ∧ (w14.heap.size ≤ (ca c 0)) ∧ (Rd (fun b => (ca c 0) ≤ b ∧ b < (ce c 0)) wq 1 (.slice (sAo (tAt (cv c 0) 1)) X1.length (sCap (tAt (cv c 0) 1))) ((X1).map encB))), .fact (fun c wq => (cv c 0) = .pointer (some ⟨(pBlk (cv c 0)), 0, none⟩) ∧ (w14.heap.size ≤ (ca c 0)) ∧ ((ca c 0) ≤ (pBlk (cv c 0)) ∧ (pBlk (cv c 0)) < (ce c 0)) ∧ (Box wq (pBlk (cv c 0)) [.slice none 0 0, .slice none 0 0, .int .i64 (0), .slice none 0 0, .bool (false)] 27))] [[], [], [0, 1], [], [0, 1, 2, 3]] 4 mixed (by kernel_rfl) ⟨upK_no rfl rfl (fun c wq wq' ⟨hv, hlo0, hF0f, hF1f⟩ hk => ⟨hv, hlo0, hF0f.ext hk, hF1f.ext hk⟩), upK_val, upK_no rfl rfl (fun c wq wq' ⟨hv, hlo2, hP⟩ hk => ⟨hv, hlo2, hP.ext hk⟩), upK_no rfl rfl (fun c wq wq' ⟨hv, hlo3, hge_b27, hB32⟩ hk => ⟨hv, hlo3, hge_b27, hB32.ext hk⟩), trivial⟩ ⟨⟨⟨⟨trivial, ?_⟩, ?_⟩, ?_⟩, ?_⟩ (fun w34 vs35 lo36 hi37 hE38 hkn39 hap40 => ?_)
  · refine oblK_post rfl rfl (fun w34k vs lo hi hE hkn hap => ?_)
    have hEs := hE.size
    replace hK := hK.trans (Kp.ext hE)
    replace hB7 := hB7.ext hE
    replace hB13 := hB13.ext hE
    replace hT := hT.ext hE
    refine oblK_n rfl ?_
    refine opk_norm [] trivial (fun ρq => ?_)
    refine o_call (from_ok (F0 := Non) (F1 := Non) none none 0 0 [] [] _ _ _ rfl rfl (by decide) (by decide) (Rd.nil _ _) (Rd.nil _ _)) Tryd.call7 (fun v41 w42 hk43 hv44 => ?_)
    have hl_b2_w42 := hB7.lt
    have hl_b8_w42 := hB13.lt
    have hs_w42 := hK.size
    have hsk_w42 := hk43.size
    obtain ⟨aaf, abf, caf, cbf, rfl, hF0f, hF1f⟩ := hv44
    replace hK := hK.trans (Kp.ext hk43)
    replace hB7 := hB7.ext hk43
    replace hB13 := hB13.ext hk43
    replace hT := hT.ext hk43
    exact ⟨hk43, rfl, hEs, hF0f.mono (fun b hb h => ⟨h, hb⟩), hF1f.mono (fun b hb h => ⟨h, hb⟩)⟩
  · refine oblK_post rfl rfl (fun w34k vs lo hi hE hkn hap => ?_)
    have hEs := hE.size
    replace hK := hK.trans (Kp.ext hE)
    replace hB7 := hB7.ext hE
    replace hB13 := hB13.ext hE
    replace hT := hT.ext hE
    refine oblK_n rfl ?_
    refine opk_norm [(1, .pointer (some ⟨b8, 0, none⟩))] ⟨rfl, trivial⟩ (fun ρq => ?_)
    refine o_loadBA (ds := [.int .i64 (9), .int .i64 (0), .int .i64 (0), .slice ((some ⟨b2, 0, none⟩)) 1 1]) rfl hB13 tyA32 rfl rfl ?_
    exact ⟨Kp.refl _ _, rfl⟩
  · refine oblK_post rfl rfl (fun w34k vs lo hi hE hkn hap => ?_)
    have hEs := hE.size
    replace hK := hK.trans (Kp.ext hE)
    replace hB7 := hB7.ext hE
    replace hB13 := hB13.ext hE
    replace hT := hT.ext hE
    obtain ⟨⟨⟨hv0_t, hlo0_t, hF0f_t, hF1f_t⟩, hq1_0, hq2_0, hq3_0⟩, -, -⟩ := hkn
    obtain ⟨aaf, abf, caf, cbf, hv0, hlo0, hF0f, hF1f⟩ : ∃ (aaf : Option Addr) (abf : Option Addr) (caf : Nat) (cbf : Nat), (vs 0 = .agg #[.slice aaf 0 caf, .slice abf 0 cbf, .int .i64 (0), .slice none 0 0, .bool (false)]) ∧ (w14.heap.size ≤ (lo 0)) ∧ (Rd (fun b => (lo 0) ≤ b ∧ b < (hi 0)) w34k 1 (.slice aaf 0 caf) ((([] : List Int)).map encB)) ∧ (Rd (fun b => (lo 0) ≤ b ∧ b < (hi 0)) w34k 1 (.slice abf 0 cbf) ((([] : List Int)).map encB)) := ⟨_, _, _, _, hv0_t, hlo0_t, hF0f_t, hF1f_t⟩
    clear hF1f_t hF0f_t hlo0_t hv0_t
    replace hq1_0 : w14.heap.size ≤ lo 0 := hq1_0
    replace hq2_0 : lo 0 ≤ hi 0 := hq2_0
    replace hq3_0 : hi 0 ≤ w34k.heap.size := hq3_0
    refine oblK_n rfl ?_
    refine opk_norm [(12, .agg #[.slice aaf 0 caf, .slice abf 0 cbf, .int .i64 (0), .slice none 0 0, .bool (false)]), (13, .agg #[.int .i64 (9), .int .i64 (0), .int .i64 (0), .slice ((some ⟨b2, 0, none⟩)) 1 1])] ⟨hv0, rfl, trivial⟩ (fun ρq => ?_)
    refine o_call (write1_to (F0 := fun _ => True) (F1 := fun _ => True) _ _ none _ _ 0 [] [] [] 0 false 9 0 0 _ _ [(⟨3, 4⟩ : Permit)] _ _ _ _ 1 X1 _ (by rw [hj0]; rfl) hX1 (by decide) (by decide) rfl rfl rfl rfl (by decide) (by decide) isB_nil isB_nil (by decide) (by simp) (by decide) (by decide) hT (hF0f.mono (fun _ _ _ => trivial)) (hF1f.mono (fun _ _ _ => trivial)) (Rd.box (css := [(⟨3, 4⟩ : Permit)].map encP) hB7 rfl (by simp [encP]))) Tryd.call11 (fun v45 w46 hk47 hv48 => ?_)
    have hl_b2_w46 := hB7.lt
    have hl_b8_w46 := hB13.lt
    have hs_w46 := hK.size
    have hsk_w46 := hk47.size
    obtain ⟨aw3, cw3, rfl, hP⟩ := hv48
    replace hK := hK.trans (Kp.ext hk47)
    replace hB7 := hB7.ext hk47
    replace hB13 := hB13.ext hk47
    replace hT := hT.ext hk47
    replace hF0f := hF0f.ext hk47
    replace hF1f := hF1f.ext hk47
    exact ⟨hk47, (show (.agg #[.slice aaf 0 caf, .slice aw3 X1.length cw3, .int .i64 (1), .slice abf 0 cbf, .bool (true)] : Value) = .agg #[.slice (sAo (tAt (vs 0) 0)) 0 (sCap (tAt (vs 0) 0)), .slice aw3 X1.length cw3, .int .i64 (1), .slice (sAo (tAt (vs 0) 1)) 0 (sCap (tAt (vs 0) 1)), .bool (true)] from by (try simp only [hv0]); first | done | rfl), hEs, hP.mono (fun b hb h => ⟨h, hb⟩)⟩
  · refine oblK_post rfl rfl (fun w34k vs lo hi hE hkn hap => ?_)
    have hEs := hE.size
    replace hK := hK.trans (Kp.ext hE)
    replace hB7 := hB7.ext hE
    replace hB13 := hB13.ext hE
    replace hT := hT.ext hE
    refine oblK_n rfl ?_
    refine opk_norm [] trivial (fun ρq => ?_)
    refine o_alloc Tryd.zeroValue27 (fun b49 w50 hb51 hz52 hk53 hB54 => ?_)
    replace hB54 : Box w50 b49 [.slice none 0 0, .slice none 0 0, .int .i64 (0), .slice none 0 0, .bool (false)] 27 := hB54
    have hs_b49 := hK.size
    have hl_b2_b49 := hB7.lt
    have hl_b8_b49 := hB13.lt
    replace hK := hK.trans (Kp.ext hk53)
    replace hB7 := hB7.ext hk53
    replace hB13 := hB13.ext hk53
    replace hT := hT.ext hk53
    exact ⟨hk53, rfl, hEs, ⟨by first | assumption | omega, hB54.lt⟩, hB54⟩
  have hsE1 := hE38.size
  replace hK := hK.trans (Kp.ext hE38)
  replace hB7 := hB7.ext hE38
  replace hB13 := hB13.ext hE38
  replace hT := hT.ext hE38
  obtain ⟨⟨⟨hv3_t, hlo3_t, hge_b27_t, hB32_t⟩, hq1_3, hq2_3, hq3_3⟩, ⟨⟨hv2_t, hlo2_t, hP_t⟩, hq1_2, hq2_2, hq3_2⟩, -, ⟨⟨hv0_t, hlo0_t, hF0f_t, hF1f_t⟩, hq1_0, hq2_0, hq3_0⟩, -⟩ := hkn39
  obtain ⟨b27, aw3, cw3, aaf, abf, caf, cbf, hv3, hlo3, hge_b27, hB32, hv2, hlo2, hP, hv0, hlo0, hF0f, hF1f⟩ : ∃ (b27 : Nat) (aw3 : Option Addr) (cw3 : Nat) (aaf : Option Addr) (abf : Option Addr) (caf : Nat) (cbf : Nat), (vs35 3 = .pointer (some ⟨b27, 0, none⟩)) ∧ (w14.heap.size ≤ (lo36 3)) ∧ ((lo36 3) ≤ b27 ∧ b27 < (hi37 3)) ∧ (Box w34 b27 [.slice none 0 0, .slice none 0 0, .int .i64 (0), .slice none 0 0, .bool (false)] 27) ∧ (vs35 2 = .agg #[.slice aaf 0 caf, .slice aw3 X1.length cw3, .int .i64 (1), .slice abf 0 cbf, .bool (true)]) ∧ (w14.heap.size ≤ (lo36 2)) ∧ (Rd (fun b => (lo36 2) ≤ b ∧ b < (hi37 2)) w34 1 (.slice aw3 X1.length cw3) ((X1).map encB)) ∧ (vs35 0 = .agg #[.slice aaf 0 caf, .slice abf 0 cbf, .int .i64 (0), .slice none 0 0, .bool (false)]) ∧ (w14.heap.size ≤ (lo36 0)) ∧ (Rd (fun b => (lo36 0) ≤ b ∧ b < (hi37 0)) w34 1 (.slice aaf 0 caf) ((([] : List Int)).map encB)) ∧ (Rd (fun b => (lo36 0) ≤ b ∧ b < (hi37 0)) w34 1 (.slice abf 0 cbf) ((([] : List Int)).map encB)) := ⟨_, _, _, _, _, _, _, hv3_t, hlo3_t, hge_b27_t, hB32_t, hv2_t, hlo2_t, hP_t, hv0_t, hlo0_t, hF0f_t, hF1f_t⟩
  clear hF1f_t hF0f_t hlo0_t hv0_t hP_t hlo2_t hv2_t hB32_t hge_b27_t hlo3_t hv3_t
  replace hq1_3 : w14.heap.size ≤ lo36 3 := hq1_3
  replace hq2_3 : lo36 3 ≤ hi37 3 := hq2_3
  replace hq3_3 : hi37 3 ≤ w34.heap.size := hq3_3
  replace hq1_2 : w14.heap.size ≤ lo36 2 := hq1_2
  replace hq2_2 : lo36 2 ≤ hi37 2 := hq2_2
  replace hq3_2 : hi37 2 ≤ w34.heap.size := hq3_2
  replace hq1_0 : w14.heap.size ≤ lo36 0 := hq1_0
  replace hq2_0 : lo36 0 ≤ hi37 0 := hq2_0
  replace hq3_0 : hi37 0 ≤ w34.heap.size := hq3_0
  have hap_0_2 : hi37 0 ≤ lo36 2 := (hap40 0 2 (by decide) (by decide) (by decide)).2 (by decide)
  have hap_0_3 : hi37 0 ≤ lo36 3 ∨ hi37 3 ≤ lo36 0 := (hap40 0 3 (by decide) (by decide) (by decide)).1
  have hap_2_3 : hi37 2 ≤ lo36 3 ∨ hi37 3 ≤ lo36 2 := (hap40 2 3 (by decide) (by decide) (by decide)).1
  refine rl_norm [(2, .pointer (some ⟨b27, 0, none⟩)), (14, .agg #[.slice aaf 0 caf, .slice aw3 X1.length cw3, .int .i64 (1), .slice abf 0 cbf, .bool (true)])] ⟨hv3, hv2, trivial⟩ (fun ρr33q => ?_)
  refine rl0 (o_storeA (vs := [.slice aaf 0 caf, .slice aw3 X1.length cw3, .int .i64 (1), .slice abf 0 cbf, .bool (true)]) rfl rfl hB32 tyA27 rfl rfl (Nat.le_of_ble_eq_true rfl) (fun w55 hk56 hz57 hB58 => ?_)) rfl
  replace hB58 : Box w55 b27 [.slice aaf 0 caf, .slice aw3 X1.length cw3, .int .i64 (1), .slice abf 0 cbf, .bool (true)] 27 := hB58
  replace hK := hK.later hk56 (fun i hi hS => by have h1 : i = b27 := hS; omega)
  replace hB7 := hB7.kp hk56 (by show ¬ b2 = b27; omega)
  replace hB13 := hB13.kp hk56 (by show ¬ b8 = b27; omega)
  replace hT := hT.kp hk56 (fun h => by have h2 : (0 : Nat) = b27 := h; omega)
  replace hF0f := hF0f.kp hk56 (fun i _ hF hS => by have h1 : (lo36 0) ≤ i ∧ i < (hi37 0) := hF; have h2 : i = b27 := hS; omega)
  replace hF1f := hF1f.kp hk56 (fun i _ hF hS => by have h1 : (lo36 0) ≤ i ∧ i < (hi37 0) := hF; have h2 : i = b27 := hS; omega)
  replace hP := hP.kp hk56 (fun i _ hF hS => by have h1 : (lo36 2) ≤ i ∧ i < (hi37 2) := hF; have h2 : i = b27 := hS; omega)
  replace hB32 := hB58
  refine rl_nil ?_
  refine cw_seq ?_
  refine cw_region rfl ?_
  refine rl (o_loadBA (ds := [.slice aaf 0 caf, .slice aw3 X1.length cw3, .int .i64 (1), .slice abf 0 cbf, .bool (true)]) rfl hB32 tyA27 rfl rfl ?_) rfl
  refine rl (o_call (jload_to _ _ _ _ _ _ ([]) X1 ([]) 1 true _ _ _ ((⟨9, 0, 0, [⟨3, 4⟩]⟩ : Ledger)) (1) true _ hj1 rfl rfl rfl rfl (by decide) (by omega) isB_nil hB1 hT hF0f hP) Tryd.call12 (fun v59 w60 hk61 hv62 => ?_)) rfl
  have hl_b2_w60 := hB7.lt
  have hl_b8_w60 := hB13.lt
  have hl_b27_w60 := hB32.lt
  have hs_w60 := hK.size
  have hsk_w60 := hk61.size
  obtain ⟨aol, cl, rfl, hLl⟩ := hv62
  replace hK := hK.trans (Kp.ext hk61)
  replace hB7 := hB7.ext hk61
  replace hB13 := hB13.ext hk61
  replace hB32 := hB32.ext hk61
  replace hT := hT.ext hk61
  replace hF0f := hF0f.ext hk61
  replace hF1f := hF1f.ext hk61
  replace hP := hP.ext hk61
  replace hLl := hLl.mono (G := fun b => w55.heap.size ≤ b ∧ b < w60.heap.size) (fun b hb h => ⟨h, hb⟩)
  have hTr_w60 := Kp.refl (fun _ => True) w60
  refine rl (o_move (v := .tuple #[.agg #[.int .i64 (9), .int .i64 (0), .int .i64 (0), .slice aol 1 cl], .int .u64 (1), .bool (true)]) rfl ?_) rfl
  refine rl (o_extract (vs := [.agg #[.int .i64 (9), .int .i64 (0), .int .i64 (0), .slice aol 1 cl], .int .u64 (1), .bool (true)]) (v := .agg #[.int .i64 (9), .int .i64 (0), .int .i64 (0), .slice aol 1 cl]) rfl rfl ?_) rfl
  refine rl (o_extract (vs := [.agg #[.int .i64 (9), .int .i64 (0), .int .i64 (0), .slice aol 1 cl], .int .u64 (1), .bool (true)]) (v := .int .u64 (1)) rfl rfl ?_) rfl
  refine rl (o_extract (vs := [.agg #[.int .i64 (9), .int .i64 (0), .int .i64 (0), .slice aol 1 cl], .int .u64 (1), .bool (true)]) (v := .bool (true)) rfl rfl ?_) rfl
  refine rl (o_alloc Tryd.zeroValue32 (fun b63 w64 hb65 hz66 hk67 hB68 => ?_)) rfl
  replace hB68 : Box w64 b63 [.int .i64 (0), .int .i64 (0), .int .i64 (0), .slice none 0 0] 32 := hB68
  have hs_b63 := hK.size
  have hl_b2_b63 := hB7.lt
  have hl_b8_b63 := hB13.lt
  have hl_b27_b63 := hB32.lt
  have ht_hTr_w60_b63 := hTr_w60.size
  replace hK := hK.trans (Kp.ext hk67)
  replace hB7 := hB7.ext hk67
  replace hB13 := hB13.ext hk67
  replace hB32 := hB32.ext hk67
  replace hT := hT.ext hk67
  replace hF0f := hF0f.ext hk67
  replace hF1f := hF1f.ext hk67
  replace hP := hP.ext hk67
  replace hLl := hLl.ext hk67
  replace hTr_w60 := hTr_w60.trans (Kp.ext hk67)
  refine rl0 (o_storeA (vs := [.int .i64 (9), .int .i64 (0), .int .i64 (0), .slice aol 1 cl]) rfl rfl hB68 tyA32 rfl rfl (Nat.le_of_ble_eq_true rfl) (fun w69 hk70 hz71 hB72 => ?_)) rfl
  replace hB72 : Box w69 b63 [.int .i64 (9), .int .i64 (0), .int .i64 (0), .slice aol 1 cl] 32 := hB72
  replace hK := hK.later hk70 (fun i hi hS => by have h1 : i = b63 := hS; omega)
  replace hB7 := hB7.kp hk70 (by show ¬ b2 = b63; omega)
  replace hB13 := hB13.kp hk70 (by show ¬ b8 = b63; omega)
  replace hB32 := hB32.kp hk70 (by show ¬ b27 = b63; omega)
  replace hT := hT.kp hk70 (fun h => by have h2 : (0 : Nat) = b63 := h; omega)
  replace hF0f := hF0f.kp hk70 (fun i _ hF hS => by have h1 : (lo36 0) ≤ i ∧ i < (hi37 0) := hF; have h2 : i = b63 := hS; omega)
  replace hF1f := hF1f.kp hk70 (fun i _ hF hS => by have h1 : (lo36 0) ≤ i ∧ i < (hi37 0) := hF; have h2 : i = b63 := hS; omega)
  replace hP := hP.kp hk70 (fun i _ hF hS => by have h1 : (lo36 2) ≤ i ∧ i < (hi37 2) := hF; have h2 : i = b63 := hS; omega)
  replace hLl := hLl.kp hk70 (fun i _ hF hS => by have h1 : w55.heap.size ≤ i ∧ i < w60.heap.size := hF; have h2 : i = b63 := hS; omega)
  replace hTr_w60 := hTr_w60.trans (hk70.mono (fun _ _ _ => trivial))
  replace hB68 := hB72
  refine rl (o_assign (v := .int .u64 (1)) rfl ?_) rfl
  refine rl (o_assign (v := .bool (true)) rfl ?_) rfl
  refine rl_nil ?_
  refine k_tn ?_
  refine cw_norm [(2, .pointer (some ⟨b27, 0, none⟩)), (3, .pointer (some ⟨b63, 0, none⟩)), (4, .int .u64 (1)), (5, .bool (true))] ⟨rfl, rfl, rfl, rfl, trivial⟩ (fun ρn73 => ?_)
  refine cw_seq ?_
  refine cw_region rfl ?_
  refine rl (o_loadBA (ds := [.slice aaf 0 caf, .slice aw3 X1.length cw3, .int .i64 (1), .slice abf 0 cbf, .bool (true)]) rfl hB32 tyA27 rfl rfl ?_) rfl
  refine rl (o_call (tear1_to _ _ _ _ _ _ [] X1 [] true 5 _ _ _ T1 _ hT1 rfl rfl rfl (by decide) (by omega) (by decide) hF0f hP hF1f) Tryd.call16 (fun v74 w75 hk76 hv77 => ?_)) rfl
  have hl_b2_w75 := hB7.lt
  have hl_b8_w75 := hB13.lt
  have hl_b27_w75 := hB32.lt
  have hl_b63_w75 := hB68.lt
  have hs_w75 := hK.size
  have hsk_w75 := hk76.size
  obtain ⟨at3, ct3, rfl, hTT⟩ := hv77
  replace hK := hK.trans (Kp.ext hk76)
  replace hB7 := hB7.ext hk76
  replace hB13 := hB13.ext hk76
  replace hB32 := hB32.ext hk76
  replace hB68 := hB68.ext hk76
  replace hT := hT.ext hk76
  replace hF0f := hF0f.ext hk76
  replace hF1f := hF1f.ext hk76
  replace hP := hP.ext hk76
  replace hLl := hLl.ext hk76
  replace hTr_w60 := hTr_w60.trans (Kp.ext hk76)
  replace hTT := hTT.mono (G := fun b => w.heap.size ≤ b ∧ b < w75.heap.size) (fun b hb h => ⟨by have := hK.size; rcases h with h | h <;> omega, hb⟩)
  have hTr_w75 := Kp.refl (fun _ => True) w75
  refine rl (o_call (jload_to _ _ _ _ _ _ ([]) T1 ([]) 1 true _ _ _ ((.zero : Ledger)) (0) false _ hj2 rfl rfl rfl rfl (by decide) (by omega) isB_nil hBT hT hF0f hTT) Tryd.call12 (fun v78 w79 hk80 hv81 => ?_)) rfl
  have hl_b2_w79 := hB7.lt
  have hl_b8_w79 := hB13.lt
  have hl_b27_w79 := hB32.lt
  have hl_b63_w79 := hB68.lt
  have hs_w79 := hK.size
  have hsk_w79 := hk80.size
  obtain ⟨aok, ck, rfl, hLk⟩ := hv81
  replace hK := hK.trans (Kp.ext hk80)
  replace hB7 := hB7.ext hk80
  replace hB13 := hB13.ext hk80
  replace hB32 := hB32.ext hk80
  replace hB68 := hB68.ext hk80
  replace hT := hT.ext hk80
  replace hF0f := hF0f.ext hk80
  replace hF1f := hF1f.ext hk80
  replace hP := hP.ext hk80
  replace hLl := hLl.ext hk80
  replace hTr_w60 := hTr_w60.trans (Kp.ext hk80)
  replace hTT := hTT.ext hk80
  replace hTr_w75 := hTr_w75.trans (Kp.ext hk80)
  replace hLk := hLk.mono (G := fun b => w75.heap.size ≤ b ∧ b < w79.heap.size) (fun b hb h => ⟨h, hb⟩)
  have hTr_w79 := Kp.refl (fun _ => True) w79
  refine rl (o_move (v := .tuple #[.agg #[.int .i64 (0), .int .i64 (0), .int .i64 (0), .slice aok 0 ck], .int .u64 (0), .bool (false)]) rfl ?_) rfl
  refine rl (o_extract (vs := [.agg #[.int .i64 (0), .int .i64 (0), .int .i64 (0), .slice aok 0 ck], .int .u64 (0), .bool (false)]) (v := .agg #[.int .i64 (0), .int .i64 (0), .int .i64 (0), .slice aok 0 ck]) rfl rfl ?_) rfl
  refine rl (o_extract (vs := [.agg #[.int .i64 (0), .int .i64 (0), .int .i64 (0), .slice aok 0 ck], .int .u64 (0), .bool (false)]) (v := .int .u64 (0)) rfl rfl ?_) rfl
  refine rl (o_extract (vs := [.agg #[.int .i64 (0), .int .i64 (0), .int .i64 (0), .slice aok 0 ck], .int .u64 (0), .bool (false)]) (v := .bool (false)) rfl rfl ?_) rfl
  refine rl (o_alloc Tryd.zeroValue32 (fun b82 w83 hb84 hz85 hk86 hB87 => ?_)) rfl
  replace hB87 : Box w83 b82 [.int .i64 (0), .int .i64 (0), .int .i64 (0), .slice none 0 0] 32 := hB87
  have hs_b82 := hK.size
  have hl_b2_b82 := hB7.lt
  have hl_b8_b82 := hB13.lt
  have hl_b27_b82 := hB32.lt
  have hl_b63_b82 := hB68.lt
  have ht_hTr_w60_b82 := hTr_w60.size
  have ht_hTr_w75_b82 := hTr_w75.size
  have ht_hTr_w79_b82 := hTr_w79.size
  replace hK := hK.trans (Kp.ext hk86)
  replace hB7 := hB7.ext hk86
  replace hB13 := hB13.ext hk86
  replace hB32 := hB32.ext hk86
  replace hB68 := hB68.ext hk86
  replace hT := hT.ext hk86
  replace hF0f := hF0f.ext hk86
  replace hF1f := hF1f.ext hk86
  replace hP := hP.ext hk86
  replace hLl := hLl.ext hk86
  replace hTr_w60 := hTr_w60.trans (Kp.ext hk86)
  replace hTT := hTT.ext hk86
  replace hTr_w75 := hTr_w75.trans (Kp.ext hk86)
  replace hLk := hLk.ext hk86
  replace hTr_w79 := hTr_w79.trans (Kp.ext hk86)
  refine rl0 (o_storeA (vs := [.int .i64 (0), .int .i64 (0), .int .i64 (0), .slice aok 0 ck]) rfl rfl hB87 tyA32 rfl rfl (Nat.le_of_ble_eq_true rfl) (fun w88 hk89 hz90 hB91 => ?_)) rfl
  replace hB91 : Box w88 b82 [.int .i64 (0), .int .i64 (0), .int .i64 (0), .slice aok 0 ck] 32 := hB91
  replace hK := hK.later hk89 (fun i hi hS => by have h1 : i = b82 := hS; omega)
  replace hB7 := hB7.kp hk89 (by show ¬ b2 = b82; omega)
  replace hB13 := hB13.kp hk89 (by show ¬ b8 = b82; omega)
  replace hB32 := hB32.kp hk89 (by show ¬ b27 = b82; omega)
  replace hB68 := hB68.kp hk89 (by show ¬ b63 = b82; omega)
  replace hT := hT.kp hk89 (fun h => by have h2 : (0 : Nat) = b82 := h; omega)
  replace hF0f := hF0f.kp hk89 (fun i _ hF hS => by have h1 : (lo36 0) ≤ i ∧ i < (hi37 0) := hF; have h2 : i = b82 := hS; omega)
  replace hF1f := hF1f.kp hk89 (fun i _ hF hS => by have h1 : (lo36 0) ≤ i ∧ i < (hi37 0) := hF; have h2 : i = b82 := hS; omega)
  replace hP := hP.kp hk89 (fun i _ hF hS => by have h1 : (lo36 2) ≤ i ∧ i < (hi37 2) := hF; have h2 : i = b82 := hS; omega)
  replace hLl := hLl.kp hk89 (fun i _ hF hS => by have h1 : w55.heap.size ≤ i ∧ i < w60.heap.size := hF; have h2 : i = b82 := hS; omega)
  replace hTr_w60 := hTr_w60.trans (hk89.mono (fun _ _ _ => trivial))
  replace hTT := hTT.kp hk89 (fun i _ hF hS => by have h1 : w.heap.size ≤ i ∧ i < w75.heap.size := hF; have h2 : i = b82 := hS; omega)
  replace hTr_w75 := hTr_w75.trans (hk89.mono (fun _ _ _ => trivial))
  replace hLk := hLk.kp hk89 (fun i _ hF hS => by have h1 : w75.heap.size ≤ i ∧ i < w79.heap.size := hF; have h2 : i = b82 := hS; omega)
  replace hTr_w79 := hTr_w79.trans (hk89.mono (fun _ _ _ => trivial))
  replace hB87 := hB91
  refine rl (o_assign (v := .int .u64 (0)) rfl ?_) rfl
  refine rl (o_assign (v := .bool (false)) rfl ?_) rfl
  refine rl_nil ?_
  refine k_tn ?_
  refine cw_norm [(2, .pointer (some ⟨b27, 0, none⟩)), (3, .pointer (some ⟨b63, 0, none⟩)), (4, .int .u64 (1)), (5, .bool (true)), (8, .bool (false))] ⟨rfl, rfl, rfl, rfl, rfl, trivial⟩ (fun ρn92 => ?_)
  obtain ⟨b9, o9, x9, hao9, hxe, hA9, hlt_b9, hF_b9⟩ := Rd.getF hLl 0 (by decide)
  replace hF_b9 : w55.heap.size ≤ b9 ∧ b9 < w60.heap.size := hF_b9
  obtain rfl : x9 = ⟨3, 4⟩ := (Option.some.inj hxe).symm
  refine cw_reg rfl ?_
  refine rl (o_move (v := .bool (true)) rfl ?_) rfl
  refine rl (o_move (v := .bool (true)) rfl ?_) rfl
  refine rl (o_move (v := .int .u64 (1)) rfl ?_) (want_t rfl (rfl))
  refine rl (o_eql rfl rfl ?_) (want_t rfl (rfl))
  refine rl (o_pickT (v := .bool (true)) rfl (rfl) rfl ?_) rfl
  refine rl (o_move (v := .bool (true)) rfl ?_) rfl
  refine rl (o_field rfl fa32_0 ?_) (want_t rfl (rfl))
  refine rl (o_loadB (v := .int .i64 (9)) rfl hB68 tyS3 rfl ?_) (want_t rfl (rfl))
  refine rl (o_eql rfl rfl ?_) (want_t rfl (rfl))
  refine rl (o_pickT (v := .bool (true)) rfl (rfl) rfl ?_) rfl
  refine rl (o_move (v := .bool (true)) rfl ?_) rfl
  refine rl (o_field rfl fa32_3 ?_) (want_t rfl (rfl))
  refine rl (o_loadB (v := .slice aol 1 cl) rfl hB68 tyS30 rfl ?_) (want_t rfl (rfl))
  refine rl (o_len rfl Tryd.underlying30 ?_) (want_t rfl (rfl))
  refine rl (o_eql rfl rfl ?_) (want_t rfl (rfl))
  refine rl (o_pickT (v := .bool (true)) rfl (rfl) rfl ?_) rfl
  refine rl (o_move (v := .bool (true)) rfl ?_) rfl
  refine rl (o_field rfl fa32_3 ?_) (want_t rfl (rfl))
  refine rl (o_loadB (v := .slice aol 1 cl) rfl hB68 tyS30 rfl ?_) (want_t rfl (rfl))
  refine rl (o_idxAt 0 rfl rfl Tryd.underlying30 Tryd.sizeOf57 hao9 (by omega) (by omega) ?_) (want_t rfl (rfl))
  refine rl (o_field rfl fa57_1 ?_) (want_t rfl (rfl))
  refine rl (o_load (v := .int .i64 (4)) rfl tyS3 (hA9 1 _ rfl) ?_) (want_t rfl (rfl))
  refine rl (o_eql rfl rfl ?_) (want_t rfl (rfl))
  refine rl (o_pickT (v := .bool (true)) rfl (rfl) rfl ?_) rfl
  refine rl (o_move (v := .bool (true)) rfl ?_) rfl
  refine rl (o_move (v := .bool (false)) rfl ?_) (want_t rfl (rfl))
  refine rl (o_not rfl ?_) (want_t rfl (rfl))
  refine rl (o_pickT (v := .bool (true)) rfl (rfl) rfl ?_) rfl
  refine rl (o_move (v := .bool (true)) rfl ?_) rfl
  refine rl (o_loadBA (ds := [.slice aaf 0 caf, .slice aw3 X1.length cw3, .int .i64 (1), .slice abf 0 cbf, .bool (true)]) rfl hB32 tyA27 rfl rfl ?_) (want_t rfl (rfl))
  refine rl (o_call (slots_ok (Fw := Non) _ _ _ _ _ _ [] X1 [] 1 true _ _ _ _ rfl rfl rfl (by decide) (by omega) hF0f hP) Tryd.call10 (fun v99 w100 hk101 hv102 => ?_)) (want_t rfl (rfl))
  have hl_b2_w100 := hB7.lt
  have hl_b8_w100 := hB13.lt
  have hl_b27_w100 := hB32.lt
  have hl_b63_w100 := hB68.lt
  have hl_b82_w100 := hB87.lt
  have hs_w100 := hK.size
  have hsk_w100 := hk101.size
  obtain ⟨bs, as3, as4, cs3, cs4, rfl, hgs, hBs, hS3, hS4⟩ := hv102
  replace hK := hK.trans (Kp.ext hk101)
  replace hB7 := hB7.ext hk101
  replace hB13 := hB13.ext hk101
  replace hB32 := hB32.ext hk101
  replace hB68 := hB68.ext hk101
  replace hB87 := hB87.ext hk101
  replace hT := hT.ext hk101
  replace hF0f := hF0f.ext hk101
  replace hF1f := hF1f.ext hk101
  replace hP := hP.ext hk101
  replace hLl := hLl.ext hk101
  replace hTr_w60 := hTr_w60.trans (Kp.ext hk101)
  replace hTT := hTT.ext hk101
  replace hTr_w75 := hTr_w75.trans (Kp.ext hk101)
  replace hLk := hLk.ext hk101
  replace hTr_w79 := hTr_w79.trans (Kp.ext hk101)
  replace hA9 := At.ext hA9 hk101
  refine rl (o_len rfl Tryd.underlying33 ?_) (want_t rfl (rfl))
  refine rl (o_eql rfl rfl ?_) (want_t rfl (rfl))
  refine rl (o_pickT (v := .bool (true)) rfl (rfl) rfl ?_) rfl
  refine rl (o_assign (v := .bool (true)) rfl ?_) rfl
  refine rl_nil ?_
  refine cw_ret ?_
  refine ret_intro (v := .bool (true)) (res_ok (vs := [.bool (true)]) rfl ⟨rfl, trivial⟩) hK ?_
  exact rfl
end Go.Proofs.YtcmlklnelipacaaDoor

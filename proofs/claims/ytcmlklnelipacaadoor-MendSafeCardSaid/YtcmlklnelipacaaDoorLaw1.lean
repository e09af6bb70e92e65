import Derived.Test.YtcmlklnelipacaaDoorLoad
set_option linter.unusedVariables false
set_option linter.unusedSimpArgs false
set_option maxRecDepth 100000
namespace Go.Proofs.YtcmlklnelipacaaDoor
open Go.RowKit Plain
theorem bt41 : StructTy Tryd.prog 41 [.int .i64 (0), .int .i64 (0), .int .i64 (0), .slice none 0 0] #[(0, 1), (1, 1), (2, 1), (3, 1)] := ⟨Tryd.zeroValue41, ⟨_, Tryd.underlying41, fun w => by simp [Tryd.sizeOf3, Tryd.sizeOf39]⟩⟩
theorem bt68 : StructTy Tryd.prog 68 [.int .i64 (0), .int .i64 (0)] #[(0, 1), (1, 1)] := ⟨Tryd.zeroValue68, ⟨_, Tryd.underlying68, fun w => by simp [Tryd.sizeOf3]⟩⟩
theorem elt68 : Elt Tryd.prog 68 (.agg #[.int .i64 (0), .int .i64 (0)]) 2 16 := elt_mk (by kernel_rfl) rfl (by decide)
theorem fa41_3 : FieldAt Tryd.prog 41 3 3 := fun a w => by
  simp [Instr.fieldAt, Instr.sureAddr, fieldPlace, Tryd.runUnderlying41, Tryd.sizeOf39]
theorem tyA41 : TyA Tryd.prog 41 4 := ⟨Tryd.isAgg41, Tryd.sizeOf41⟩
theorem tyS39 : TyS Tryd.prog 39 := ⟨Tryd.isAgg39, Tryd.sizeOf39⟩
theorem few16_ok {F : Nat → Prop} (b m c : Int) (ao : Option Addr) (cp : Nat) (ps : List Permit) (n : Nat) (w : World) (hl_n : n = ps.length) :
    Calls Tryd.prog 8 #[.agg #[.int .i64 (b), .int .i64 (m), .int .i64 (c), .slice ao n cp]] w (Ret Non w fun v w' => v = .bool (decide (((ps.length : Nat) : Int) ≤ 80))) := by
  have hK := Kp.refl Non w
  subst hl_n
  refine calls_cw Tryd.func8 rfl (Nat.le_of_ble_eq_true rfl) ?_
  refine cw_reg rfl ?_
  refine rl (o_box (v := .agg #[.int .i64 (b), .int .i64 (m), .int .i64 (c), .slice ao ps.length cp]) rfl (fun b1 w2 hb3 hz4 hk5 hB6 => ?_)) rfl
  replace hB6 : Box w2 b1 [.int .i64 (b), .int .i64 (m), .int .i64 (c), .slice ao ps.length cp] 32 := hB6
  have hs_b1 := hK.size
  replace hK := hK.trans (Kp.ext hk5)
  refine rl (o_assign (v := .bool (false)) rfl ?_) rfl
  refine rl_nil ?_
  refine cw_reg rfl ?_
  refine rl (o_field rfl fa32_3 ?_) rfl
  refine rl (o_loadB (v := .slice ao ps.length cp) rfl hB6 tyS30 rfl ?_) rfl
  refine rl (o_len rfl Tryd.underlying30 ?_) rfl
  refine rl (o_leq rfl rfl ?_) rfl
  refine rl (o_assign (v := .bool (decide (((ps.length : Nat) : Int) ≤ 80))) rfl ?_) rfl
  refine rl_nil ?_
  refine cw_ret ?_
  refine ret_intro (v := .bool (decide (((ps.length : Nat) : Int) ≤ 80))) (res_ok (vs := [.bool (decide (((ps.length : Nat) : Int) ≤ 80))]) rfl ⟨rfl, trivial⟩) hK ?_
  exact rfl

theorem of16_ok {F : Nat → Prop} (b m c : Int) (ao : Option Addr) (cp : Nat) (ps : List Permit) (n0 : Nat) (w : World) (hl_n0 : n0 = ps.length) (hn : n0 ≤ 1000000) (hR : Rd F w 2 (.slice ao n0 cp) (ps.map encP)) :
    Calls Tryd.prog 13 #[.agg #[.int .i64 (b), .int .i64 (m), .int .i64 (c), .slice ao n0 cp]] w (Ret Non w fun v w' => ∃ (n : Nat) (ao2 : Option Addr) (c2 : Nat), v = .agg #[.int .i64 b, .int .i64 m, .int .i64 c, .slice ao2 n c2] ∧ n = ps.length ∧ Rd (fun b => w.heap.size ≤ b) w' 2 (.slice ao2 n c2) (ps.map encP)) := by
  have hK := Kp.refl Non w
  subst hl_n0
  replace hR := hR.old
  refine calls_cw Tryd.func13 rfl (Nat.le_of_ble_eq_true rfl) ?_
  refine cw_reg rfl ?_
  refine rl (o_box (v := .agg #[.int .i64 (b), .int .i64 (m), .int .i64 (c), .slice ao ps.length cp]) rfl (fun b1 w2 hb3 hz4 hk5 hB6 => ?_)) rfl
  replace hB6 : Box w2 b1 [.int .i64 (b), .int .i64 (m), .int .i64 (c), .slice ao ps.length cp] 32 := hB6
  have hs_b1 := hK.size
  replace hK := hK.trans (Kp.ext hk5)
  replace hR := hR.ext hk5
  refine rl (o_alloc Tryd.zeroValue41 (fun b7 w8 hb9 hz10 hk11 hB12 => ?_)) rfl
  replace hB12 : Box w8 b7 [.int .i64 (0), .int .i64 (0), .int .i64 (0), .slice none 0 0] 41 := hB12
  have hs_b7 := hK.size
  have hl_b1_b7 := hB6.lt
  replace hK := hK.trans (Kp.ext hk11)
  replace hB6 := hB6.ext hk11
  replace hR := hR.ext hk11
  refine rl_nil ?_
  refine cw_reg rfl ?_
  refine rl (o_field rfl fa32_0 ?_) rfl
  refine rl (o_loadB (v := .int .i64 (b)) rfl hB6 tyS3 rfl ?_) rfl
  refine rl (o_field rfl fa32_1 ?_) rfl
  refine rl (o_loadB (v := .int .i64 (m)) rfl hB6 tyS3 rfl ?_) rfl
  refine rl (o_field rfl fa32_2 ?_) rfl
  refine rl (o_loadB (v := .int .i64 (c)) rfl hB6 tyS3 rfl ?_) rfl
  refine rl (o_build (cs := [.int .i64 (b), .int .i64 (m), .int .i64 (c), .slice none 0 0]) bt41 rfl ?_) rfl
  refine rl (o_alloc Tryd.zeroValue41 (fun b13 w14 hb15 hz16 hk17 hB18 => ?_)) rfl
  replace hB18 : Box w14 b13 [.int .i64 (0), .int .i64 (0), .int .i64 (0), .slice none 0 0] 41 := hB18
  have hs_b13 := hK.size
  have hl_b1_b13 := hB6.lt
  have hl_b7_b13 := hB12.lt
  replace hK := hK.trans (Kp.ext hk17)
  replace hB6 := hB6.ext hk17
  replace hB12 := hB12.ext hk17
  replace hR := hR.ext hk17
  refine rl0 (o_storeA (vs := [.int .i64 (b), .int .i64 (m), .int .i64 (c), .slice none 0 0]) rfl rfl hB18 tyA41 rfl rfl (Nat.le_of_ble_eq_true rfl) (fun w19 hk20 hz21 hB22 => ?_)) rfl
  replace hB22 : Box w19 b13 [.int .i64 (b), .int .i64 (m), .int .i64 (c), .slice none 0 0] 41 := hB22
  replace hK := hK.later hk20 (fun i hi hS => by have h1 : i = b13 := hS; omega)
  replace hB6 := hB6.kp hk20 (by show ¬ b1 = b13; omega)
  replace hB12 := hB12.kp hk20 (by show ¬ b7 = b13; omega)
  replace hR := hR.kp hk20 (fun i _ hF hS => by have h1 : i < w.heap.size := hF; have h2 : i = b13 := hS; omega)
  replace hB18 := hB22
  refine rl_nil ?_
  refine cw_seq ?_
  refine cw_reg rfl ?_
  refine rl (o_assign (v := .int .i64 (0)) rfl ?_) rfl
  refine rl_nil ?_
  refine cw_block ?_
  refine cw_loop (fun mm ρ' w' => ∃ (ρ0 : Env) (i : Nat) (ao2 : Option Addr) (c2 : Nat), (ρ' = upds ρ0 [(1, .pointer (some ⟨b1, 0, none⟩)), (2, .pointer (some ⟨b7, 0, none⟩)), (3, .pointer (some ⟨b13, 0, none⟩)), (4, .int .i64 ((i : Int)))]) ∧ (mm = ps.length - i) ∧ (i ≤ ps.length) ∧ (Kp Non w w') ∧ (Box w' b1 [.int .i64 (b), .int .i64 (m), .int .i64 (c), .slice ao ps.length cp] 32) ∧ (Box w' b7 [.int .i64 (0), .int .i64 (0), .int .i64 (0), .slice none 0 0] 41) ∧ (Box w' b13 [.int .i64 (b), .int .i64 (m), .int .i64 (c), .slice ao2 i c2] 41) ∧ (Rd (fun b => b < w.heap.size) w' 2 (.slice ao ps.length cp) (ps.map encP)) ∧ (w'.ownsRow w.heap.size 68 2 (.slice ao2 i c2) i ((ps.take i).flatMap encP))) (ps.length - (0)) ?_ ?_
  · skip
    exact ⟨_, 0, none, 0, upds_eq _ _ ⟨rfl, rfl, rfl, rfl, trivial⟩, rfl, Nat.zero_le _, hK, hB6, hB12, hB18, hR, own_nil _ _ _ _⟩
  · rintro mm ρ1 w23 ⟨ρ0, i, ao2, c2, rfl, rfl, hi, hK, hB6, hB12, hB18, hR, hO⟩
    refine cw_seq ?_
    refine cw_reg rfl ?_
    refine rl (o_move (v := .int .i64 ((i : Int))) rfl ?_) rfl
    refine rl (o_field rfl fa32_3 ?_) rfl
    refine rl (o_loadB (v := .slice ao ps.length cp) rfl hB6 tyS30 rfl ?_) rfl
    refine rl (o_len rfl Tryd.underlying30 ?_) rfl
    refine rl (o_lss rfl rfl ?_) rfl
    refine rl_nil ?_
    refine cw_if rfl (fun h24 => ?_) (fun h24 => ?_)
    · skip
      refine cw_skip ?_
      refine k_tn ?_
      refine cw_seq ?_
      refine cw_block ?_
      obtain ⟨b9, o9, x9, hao9, hxe, hA9⟩ := Rd.get hR i (by omega)
      have hl_b1_d1 := hB6.lt
      have hl_b7_d1 := hB12.lt
      have hl_b13_d1 := hB18.lt
      refine cw_norm [(1, .pointer (some ⟨b1, 0, none⟩)), (2, .pointer (some ⟨b7, 0, none⟩)), (3, .pointer (some ⟨b13, 0, none⟩)), (4, .int .i64 ((i : Int)))] ⟨rfl, rfl, rfl, rfl, trivial⟩ (fun ρr43 => ?_)
      refine cw_drawn1 [.val (.pointer (some ⟨b13, 3, none⟩)), .val (.slice ao2 i c2), .val (.pointer (some ⟨b1, 3, none⟩)), .val (.slice ao ps.length cp), .val (.int .i64 ((i : Int))), .val (.pointer (some ⟨b9, o9 + i * 2, none⟩)), .val (.pointer (some ⟨b9, o9 + i * 2, none⟩)), .val (.int .i64 (x9.car)), .val (.pointer (some ⟨b1, 3, none⟩)), .val (.slice ao ps.length cp), .val (.int .i64 ((i : Int))), .val (.pointer (some ⟨b9, o9 + i * 2, none⟩)), .val (.pointer (some ⟨b9, o9 + i * 2 + 1, none⟩)), .val (.int .i64 (x9.peak)), .val (.agg #[.int .i64 (x9.car), .int .i64 (x9.peak)]), .fact (fun v w' => ∃ (b37 : Nat), v = .slice ((some ⟨b37, 0, none⟩)) 1 1 ∧ (w23.heap.size ≤ b37) ∧ (Box w' b37 [.int .i64 (x9.car), .int .i64 (x9.peak)] 68))] [[], [0], [], [2], [], [2, 3, 4], [2, 3, 4, 5], [2, 3, 4, 5, 6], [], [8], [], [8, 9, 10], [8, 9, 10, 11], [8, 9, 10, 11, 12], [2, 3, 4, 5, 6, 7, 8, 9, 10, 11, 12, 13], [2, 3, 4, 5, 6, 7, 8, 9, 10, 11, 12, 13, 14], [0, 1, 2, 3, 4, 5, 6, 7, 8, 9, 10, 11, 12, 13, 14, 15], [0, 1, 2, 3, 4, 5, 6, 7, 8, 9, 10, 11, 12, 13, 14, 15, 16], [0, 1, 2, 3, 4, 5, 6, 7, 8, 9, 10, 11, 12, 13, 14, 15, 16, 17]] 16 mixed (by kernel_rfl) ⟨trivial, trivial, trivial, trivial, trivial, trivial, trivial, trivial, trivial, trivial, trivial, trivial, trivial, trivial, trivial, (fun v w w' ⟨b37, hv, hge_b37, hB42⟩ hk => ⟨b37, hv, hge_b37, hB42.ext hk⟩), trivial⟩ ⟨⟨⟨⟨⟨⟨⟨⟨⟨⟨⟨⟨⟨⟨⟨⟨trivial, ?_⟩, ?_⟩, ?_⟩, ?_⟩, ?_⟩, ?_⟩, ?_⟩, ?_⟩, ?_⟩, ?_⟩, ?_⟩, ?_⟩, ?_⟩, ?_⟩, ?_⟩, ?_⟩ (fun w44 vs45 hE46 hkn47 => ?_)
      · refine obl_mk rfl (fun w44k vs hE hkn => ?_)
        replace hK := hK.trans (Kp.ext hE)
        replace hB6 := hB6.ext hE
        replace hB12 := hB12.ext hE
        replace hB18 := hB18.ext hE
        replace hR := hR.ext hE
        replace hO := own_kp hO hE (fun _ _ _ x => x)
        replace hA9 := At.ext hA9 hE
        refine obl_t rfl ?_
        refine opk_norm [(3, .pointer (some ⟨b13, 0, none⟩))] ⟨rfl, trivial⟩ (fun ρq => ?_)
        refine o_field rfl fa41_3 ?_
        exact ⟨Kp.refl _ _, rfl⟩
      · refine obl_mk rfl (fun w44k vs hE hkn => ?_)
        replace hK := hK.trans (Kp.ext hE)
        replace hB6 := hB6.ext hE
        replace hB12 := hB12.ext hE
        replace hB18 := hB18.ext hE
        replace hR := hR.ext hE
        replace hO := own_kp hO hE (fun _ _ _ x => x)
        replace hA9 := At.ext hA9 hE
        refine obl_t rfl ?_
        refine opk_norm [(19, .pointer (some ⟨b13, 3, none⟩))] ⟨rfl, trivial⟩ (fun ρq => ?_)
        refine o_loadB (v := .slice ao2 i c2) rfl hB18 tyS39 rfl ?_
        exact ⟨Kp.refl _ _, rfl⟩
      · refine obl_mk rfl (fun w44k vs hE hkn => ?_)
        replace hK := hK.trans (Kp.ext hE)
        replace hB6 := hB6.ext hE
        replace hB12 := hB12.ext hE
        replace hB18 := hB18.ext hE
        replace hR := hR.ext hE
        replace hO := own_kp hO hE (fun _ _ _ x => x)
        replace hA9 := At.ext hA9 hE
        refine obl_t rfl ?_
        refine opk_norm [(1, .pointer (some ⟨b1, 0, none⟩))] ⟨rfl, trivial⟩ (fun ρq => ?_)
        refine o_field rfl fa32_3 ?_
        exact ⟨Kp.refl _ _, rfl⟩
      · refine obl_mk rfl (fun w44k vs hE hkn => ?_)
        replace hK := hK.trans (Kp.ext hE)
        replace hB6 := hB6.ext hE
        replace hB12 := hB12.ext hE
        replace hB18 := hB18.ext hE
        replace hR := hR.ext hE
        replace hO := own_kp hO hE (fun _ _ _ x => x)
        replace hA9 := At.ext hA9 hE
        refine obl_t rfl ?_
        refine opk_norm [(21, .pointer (some ⟨b1, 3, none⟩))] ⟨rfl, trivial⟩ (fun ρq => ?_)
        refine o_loadB (v := .slice ao ps.length cp) rfl hB6 tyS30 rfl ?_
        exact ⟨Kp.refl _ _, rfl⟩
      · refine obl_mk rfl (fun w44k vs hE hkn => ?_)
        replace hK := hK.trans (Kp.ext hE)
        replace hB6 := hB6.ext hE
        replace hB12 := hB12.ext hE
        replace hB18 := hB18.ext hE
        replace hR := hR.ext hE
        replace hO := own_kp hO hE (fun _ _ _ x => x)
        replace hA9 := At.ext hA9 hE
        refine obl_t rfl ?_
        refine opk_norm [(4, .int .i64 ((i : Int)))] ⟨rfl, trivial⟩ (fun ρq => ?_)
        refine o_move (v := .int .i64 ((i : Int))) rfl ?_
        exact ⟨Kp.refl _ _, rfl⟩
      · refine obl_mk rfl (fun w44k vs hE hkn => ?_)
        replace hK := hK.trans (Kp.ext hE)
        replace hB6 := hB6.ext hE
        replace hB12 := hB12.ext hE
        replace hB18 := hB18.ext hE
        replace hR := hR.ext hE
        replace hO := own_kp hO hE (fun _ _ _ x => x)
        replace hA9 := At.ext hA9 hE
        refine obl_t rfl ?_
        refine opk_norm [(22, .slice ao ps.length cp), (23, .int .i64 ((i : Int)))] ⟨rfl, rfl, trivial⟩ (fun ρq => ?_)
        refine o_idxAt i rfl rfl Tryd.underlying30 Tryd.sizeOf57 hao9 (by omega) (by omega) ?_
        exact ⟨Kp.refl _ _, rfl⟩
      · refine obl_mk rfl (fun w44k vs hE hkn => ?_)
        replace hK := hK.trans (Kp.ext hE)
        replace hB6 := hB6.ext hE
        replace hB12 := hB12.ext hE
        replace hB18 := hB18.ext hE
        replace hR := hR.ext hE
        replace hO := own_kp hO hE (fun _ _ _ x => x)
        replace hA9 := At.ext hA9 hE
        refine obl_t rfl ?_
        refine opk_norm [(24, .pointer (some ⟨b9, o9 + i * 2, none⟩))] ⟨rfl, trivial⟩ (fun ρq => ?_)
        refine o_field rfl fa57_0 ?_
        exact ⟨Kp.refl _ _, rfl⟩
      · refine obl_mk rfl (fun w44k vs hE hkn => ?_)
        replace hK := hK.trans (Kp.ext hE)
        replace hB6 := hB6.ext hE
        replace hB12 := hB12.ext hE
        replace hB18 := hB18.ext hE
        replace hR := hR.ext hE
        replace hO := own_kp hO hE (fun _ _ _ x => x)
        replace hA9 := At.ext hA9 hE
        refine obl_t rfl ?_
        refine opk_norm [(25, .pointer (some ⟨b9, o9 + i * 2, none⟩))] ⟨rfl, trivial⟩ (fun ρq => ?_)
        refine o_load (v := .int .i64 (x9.car)) rfl tyS3 (hA9 0 _ rfl) ?_
        exact ⟨Kp.refl _ _, rfl⟩
      · refine obl_mk rfl (fun w44k vs hE hkn => ?_)
        replace hK := hK.trans (Kp.ext hE)
        replace hB6 := hB6.ext hE
        replace hB12 := hB12.ext hE
        replace hB18 := hB18.ext hE
        replace hR := hR.ext hE
        replace hO := own_kp hO hE (fun _ _ _ x => x)
        replace hA9 := At.ext hA9 hE
        refine obl_t rfl ?_
        refine opk_norm [(1, .pointer (some ⟨b1, 0, none⟩))] ⟨rfl, trivial⟩ (fun ρq => ?_)
        refine o_field rfl fa32_3 ?_
        exact ⟨Kp.refl _ _, rfl⟩
      · refine obl_mk rfl (fun w44k vs hE hkn => ?_)
        replace hK := hK.trans (Kp.ext hE)
        replace hB6 := hB6.ext hE
        replace hB12 := hB12.ext hE
        replace hB18 := hB18.ext hE
        replace hR := hR.ext hE
        replace hO := own_kp hO hE (fun _ _ _ x => x)
        replace hA9 := At.ext hA9 hE
        refine obl_t rfl ?_
        refine opk_norm [(27, .pointer (some ⟨b1, 3, none⟩))] ⟨rfl, trivial⟩ (fun ρq => ?_)
        refine o_loadB (v := .slice ao ps.length cp) rfl hB6 tyS30 rfl ?_
        exact ⟨Kp.refl _ _, rfl⟩
      · refine obl_mk rfl (fun w44k vs hE hkn => ?_)
        replace hK := hK.trans (Kp.ext hE)
        replace hB6 := hB6.ext hE
        replace hB12 := hB12.ext hE
        replace hB18 := hB18.ext hE
        replace hR := hR.ext hE
        replace hO := own_kp hO hE (fun _ _ _ x => x)
        replace hA9 := At.ext hA9 hE
        refine obl_t rfl ?_
        refine opk_norm [(4, .int .i64 ((i : Int)))] ⟨rfl, trivial⟩ (fun ρq => ?_)
        refine o_move (v := .int .i64 ((i : Int))) rfl ?_
        exact ⟨Kp.refl _ _, rfl⟩
      · refine obl_mk rfl (fun w44k vs hE hkn => ?_)
        replace hK := hK.trans (Kp.ext hE)
        replace hB6 := hB6.ext hE
        replace hB12 := hB12.ext hE
        replace hB18 := hB18.ext hE
        replace hR := hR.ext hE
        replace hO := own_kp hO hE (fun _ _ _ x => x)
        replace hA9 := At.ext hA9 hE
        refine obl_t rfl ?_
        refine opk_norm [(28, .slice ao ps.length cp), (29, .int .i64 ((i : Int)))] ⟨rfl, rfl, trivial⟩ (fun ρq => ?_)
        refine o_idxAt i rfl rfl Tryd.underlying30 Tryd.sizeOf57 hao9 (by omega) (by omega) ?_
        exact ⟨Kp.refl _ _, rfl⟩
      · refine obl_mk rfl (fun w44k vs hE hkn => ?_)
        replace hK := hK.trans (Kp.ext hE)
        replace hB6 := hB6.ext hE
        replace hB12 := hB12.ext hE
        replace hB18 := hB18.ext hE
        replace hR := hR.ext hE
        replace hO := own_kp hO hE (fun _ _ _ x => x)
        replace hA9 := At.ext hA9 hE
        refine obl_t rfl ?_
        refine opk_norm [(30, .pointer (some ⟨b9, o9 + i * 2, none⟩))] ⟨rfl, trivial⟩ (fun ρq => ?_)
        refine o_field rfl fa57_1 ?_
        exact ⟨Kp.refl _ _, rfl⟩
      · refine obl_mk rfl (fun w44k vs hE hkn => ?_)
        replace hK := hK.trans (Kp.ext hE)
        replace hB6 := hB6.ext hE
        replace hB12 := hB12.ext hE
        replace hB18 := hB18.ext hE
        replace hR := hR.ext hE
        replace hO := own_kp hO hE (fun _ _ _ x => x)
        replace hA9 := At.ext hA9 hE
        refine obl_t rfl ?_
        refine opk_norm [(31, .pointer (some ⟨b9, o9 + i * 2 + 1, none⟩))] ⟨rfl, trivial⟩ (fun ρq => ?_)
        refine o_load (v := .int .i64 (x9.peak)) rfl tyS3 (hA9 1 _ rfl) ?_
        exact ⟨Kp.refl _ _, rfl⟩
      · refine obl_mk rfl (fun w44k vs hE hkn => ?_)
        replace hK := hK.trans (Kp.ext hE)
        replace hB6 := hB6.ext hE
        replace hB12 := hB12.ext hE
        replace hB18 := hB18.ext hE
        replace hR := hR.ext hE
        replace hO := own_kp hO hE (fun _ _ _ x => x)
        replace hA9 := At.ext hA9 hE
        refine obl_t rfl ?_
        refine opk_norm [(26, .int .i64 (x9.car)), (32, .int .i64 (x9.peak))] ⟨rfl, rfl, trivial⟩ (fun ρq => ?_)
        refine o_build (cs := [.int .i64 (x9.car), .int .i64 (x9.peak)]) bt68 rfl ?_
        exact ⟨Kp.refl _ _, rfl⟩
      · refine obl_mk rfl (fun w44k vs hE hkn => ?_)
        replace hK := hK.trans (Kp.ext hE)
        replace hB6 := hB6.ext hE
        replace hB12 := hB12.ext hE
        replace hB18 := hB18.ext hE
        replace hR := hR.ext hE
        replace hO := own_kp hO hE (fun _ _ _ x => x)
        replace hA9 := At.ext hA9 hE
        refine obl_t rfl ?_
        refine opk_norm [(33, .agg #[.int .i64 (x9.car), .int .i64 (x9.peak)])] ⟨rfl, trivial⟩ (fun ρq => ?_)
        refine o_buildSlice (vs := [.agg #[.int .i64 (x9.car), .int .i64 (x9.peak)]]) (n := 1) rfl Tryd.underlying39 elt68 rfl rfl (Nat.le_of_ble_eq_true rfl) (fun b60 w61 hb62 hz63 hk64 hB65 => ?_)
        replace hB65 : Box w61 b60 [.int .i64 (x9.car), .int .i64 (x9.peak)] 68 := hB65
        have hs_b60 := hK.size
        have hl_b1_b60 := hB6.lt
        have hl_b7_b60 := hB12.lt
        have hl_b13_b60 := hB18.lt
        replace hK := hK.trans (Kp.ext hk64)
        replace hB6 := hB6.ext hk64
        replace hB12 := hB12.ext hk64
        replace hB18 := hB18.ext hk64
        replace hR := hR.ext hk64
        replace hO := own_kp hO hk64 (fun _ _ _ x => x)
        replace hA9 := At.ext hA9 hk64
        exact ⟨hk64, b60, rfl, (by have := hK.size; have := hE.size; omega), hB65⟩
      replace hK := hK.trans (Kp.ext hE46)
      replace hB6 := hB6.ext hE46
      replace hB12 := hB12.ext hE46
      replace hB18 := hB18.ext hE46
      replace hR := hR.ext hE46
      replace hO := own_kp hO hE46 (fun _ _ _ x => x)
      replace hA9 := At.ext hA9 hE46
      obtain ⟨⟨b37, hv15, hge_b37, hB42⟩, -, -, -, -, -, -, -, -, -, -, -, -, -, -, -, -⟩ := hkn47
      refine rl_norm [(1, .pointer (some ⟨b1, 0, none⟩)), (2, .pointer (some ⟨b7, 0, none⟩)), (3, .pointer (some ⟨b13, 0, none⟩)), (4, .int .i64 ((i : Int))), (20, .slice ao2 i c2), (34, .slice ((some ⟨b37, 0, none⟩)) 1 1)] ⟨rfl, rfl, rfl, rfl, rfl, hv15, trivial⟩ (fun ρr43q => ?_)
      refine rl (o_append (news := [.int .i64 (x9.car), .int .i64 (x9.peak)]) rfl rfl Tryd.underlying39 elt68 hO (hB42.at_ 0 2) rfl (by simp [one]) (by omega) (by omega) (by have := hK.size; omega) (fun ao66 c67 w68 hk69 hO70 => ?_)) rfl
      replace hK := hK.later hk69 (fun i hi hS => by have := (own_lt hO i hS).1; omega)
      clear hB42
      replace hB6 := hB6.grown hO (by decide) hk69
      replace hB12 := hB12.grown hO (by decide) hk69
      replace hB18 := hB18.grown hO (by decide) hk69
      replace hR := hR.kp hk69 (fun i _ hF hS => by have h1 : i < w.heap.size := hF; have h2 := (own_lt hO i hS).1; omega)
      have hOn : w68.ownsRow w.heap.size 68 2 (.slice ao66 (i + 1) c67) (i + 1) ((ps.take (i + 1)).flatMap encP) := by rw [flat_snoc hxe]; simpa [encP] using hO70
      have hO := hOn; clear hOn
      refine rl (o_field rfl fa41_3 ?_) rfl
      refine rl0 (o_store1 (v := .slice ao66 (i + 1) c67) rfl rfl hB18 tyS39 rfl (Nat.le_of_ble_eq_true rfl) (fun w71 hk72 hz73 hB74 => ?_)) rfl
      replace hB74 : Box w71 b13 [.int .i64 (b), .int .i64 (m), .int .i64 (c), .slice ao66 (i + 1) c67] 41 := hB74
      replace hK := hK.later hk72 (fun i hi hS => by have h1 : i = b13 := hS; omega)
      replace hB6 := hB6.kp hk72 (by show ¬ b1 = b13; omega)
      replace hB12 := hB12.kp hk72 (by show ¬ b7 = b13; omega)
      replace hR := hR.kp hk72 (fun i _ hF hS => by have h1 : i < w.heap.size := hF; have h2 : i = b13 := hS; omega)
      replace hO := own_other hO hB18 (by decide) hk72
      replace hB18 := hB74
      refine rl_nil ?_
      refine k_bn ?_
      refine k_tn ?_
      refine cw_region rfl ?_
      refine rl (o_move (v := .int .i64 ((i : Int))) rfl ?_) rfl
      refine rl (o_add64 (a := (i : Int)) (b := 1) rfl rfl (by omega) (by omega) ?_) rfl
      refine rl (o_assign (v := .int .i64 ((i : Int) + 1)) rfl ?_) rfl
      refine rl_nil ?_
      refine k_tn ?_
      refine ⟨_, ?_, _, i + 1, _, _, upds_eq _ _ ⟨rfl, rfl, rfl, rfl, trivial⟩, rfl, by omega, hK, hB6, hB12, hB18, hR, hO⟩
      omega
    · skip
      refine cw_exit ?_
      refine k_te ?_
      refine k_te ?_
      refine k_bh ?_
      refine k_tn ?_
      refine cw_reg rfl ?_
      refine rl (o_loadBA (ds := [.int .i64 (b), .int .i64 (m), .int .i64 (c), .slice ao2 i c2]) rfl hB18 tyA41 rfl rfl ?_) rfl
      refine rl0 (o_storeA (vs := [.int .i64 (b), .int .i64 (m), .int .i64 (c), .slice ao2 i c2]) rfl rfl hB12 tyA41 rfl rfl (Nat.le_of_ble_eq_true rfl) (fun w75 hk76 hz77 hB78 => ?_)) rfl
      replace hB78 : Box w75 b7 [.int .i64 (b), .int .i64 (m), .int .i64 (c), .slice ao2 i c2] 41 := hB78
      replace hK := hK.later hk76 (fun i hi hS => by have h1 : i = b7 := hS; omega)
      replace hB6 := hB6.kp hk76 (by show ¬ b1 = b7; omega)
      replace hB18 := hB18.kp hk76 (by show ¬ b13 = b7; omega)
      replace hR := hR.kp hk76 (fun i _ hF hS => by have h1 : i < w.heap.size := hF; have h2 : i = b7 := hS; omega)
      replace hO := own_other hO hB12 (by decide) hk76
      replace hB12 := hB78
      refine rl_nil ?_
      refine cw_ret ?_
      refine ret_intro (v := .agg #[.int .i64 (b), .int .i64 (m), .int .i64 (c), .slice ao2 i c2]) (res_ok (vs := [.agg #[.int .i64 (b), .int .i64 (m), .int .i64 (c), .slice ao2 i c2]]) rfl ⟨⟨_, rfl, run_loadA tyA41 rfl (hB12.at_ 0 4)⟩, trivial⟩) hK ?_
      obtain rfl : i = ps.length := by omega
      rw [List.take_length] at hO
      exact ⟨_, _, _, rfl, rfl, Rd.of_ownF hO (fun _ => rfl) rfl⟩

theorem slots_ok {F0 F1 Fw : Nat → Prop} (a0 a1 aw : Option Addr) (p0 p1 pw : Nat) (s0 s1 wa : List Int) (la : Int) (wr : Bool) (n0 : Nat) (n1 : Nat) (nw : Nat) (w : World) (hl_nw : nw = wa.length) (hl_n1 : n1 = s1.length) (hl_n0 : n0 = s0.length) (hn0 : n0 ≤ 1000000) (hn1 : n1 ≤ 1000000) (hR0 : Rd F0 w 1 (.slice a0 n0 p0) (s0.map encB)) (hR1 : Rd F1 w 1 (.slice a1 n1 p1) (s1.map encB)) :
    Calls Tryd.prog 10 #[.agg #[.slice a0 n0 p0, .slice a1 n1 p1, .int .i64 (la), .slice aw nw pw, .bool (wr)]] w (Ret Non w fun v w' => ∃ (b : Nat) (ao3 ao4 : Option Addr) (c3 c4 : Nat), v = .slice (some ⟨b, 0, none⟩) 2 2 ∧ w.heap.size ≤ b ∧ Box w' b [.slice ao3 s0.length c3, .slice ao4 s1.length c4] 24 ∧ Rd (fun b => w.heap.size ≤ b) w' 1 (.slice ao3 s0.length c3) (s0.map encB) ∧ Rd (fun b => w.heap.size ≤ b) w' 1 (.slice ao4 s1.length c4) (s1.map encB)) := by
  have hK := Kp.refl Non w
  subst hl_n0
  subst hl_n1
  subst hl_nw
  replace hR0 := hR0.old
  replace hR1 := hR1.old
  refine calls_cw Tryd.func10 rfl (Nat.le_of_ble_eq_true rfl) ?_
  refine cw_reg rfl ?_
  refine rl (o_box (v := .agg #[.slice a0 s0.length p0, .slice a1 s1.length p1, .int .i64 (la), .slice aw wa.length pw, .bool (wr)]) rfl (fun b1 w2 hb3 hz4 hk5 hB6 => ?_)) rfl
  replace hB6 : Box w2 b1 [.slice a0 s0.length p0, .slice a1 s1.length p1, .int .i64 (la), .slice aw wa.length pw, .bool (wr)] 27 := hB6
  have hs_b1 := hK.size
  replace hK := hK.trans (Kp.ext hk5)
  replace hR0 := hR0.ext hk5
  replace hR1 := hR1.ext hk5
  refine rl (o_assign (v := .slice none 0 0) rfl ?_) rfl
  refine rl_nil ?_
  have hl_b1_d2 := hB6.lt
  refine cw_norm [(1, .pointer (some ⟨b1, 0, none⟩))] ⟨rfl, trivial⟩ (fun ρr11 => ?_)
  refine cw_drawn [.val (.pointer (some ⟨b1, 0, none⟩)), .val (.pointer (some ⟨b1, 0, none⟩)), .val (.slice a0 s0.length p0), .fact (fun v w' => ∃ (ao3 : Option Addr) (c3 : Nat), v = .slice ao3 s0.length c3 ∧ (Rd (fun b => w.heap.size ≤ b) w' 1 (.slice ao3 s0.length c3) ((s0).map encB))), .val (.pointer (some ⟨b1, 0, none⟩)), .val (.pointer (some ⟨b1, 1, none⟩)), .val (.slice a1 s1.length p1)] [[], [0], [0, 1], [0, 1, 2], [], [4], [4, 5], [0, 1, 2, 3, 4, 5, 6], [0, 1, 2, 3, 4, 5, 6, 7], [0, 1, 2, 3, 4, 5, 6, 7, 8]] 7 mixed (by kernel_rfl) ⟨trivial, trivial, trivial, (fun v w w' ⟨ao3, c3, hv, hS0⟩ hk => ⟨ao3, c3, hv, hS0.ext hk⟩), trivial, trivial, trivial, trivial⟩ ⟨⟨⟨⟨⟨⟨⟨trivial, ?_⟩, ?_⟩, ?_⟩, ?_⟩, ?_⟩, ?_⟩, ?_⟩ (fun w12 vs13 hE14 hkn15 => ?_)
  · refine obl_mk rfl (fun w12k vs hE hkn => ?_)
    replace hK := hK.trans (Kp.ext hE)
    replace hB6 := hB6.ext hE
    replace hR0 := hR0.ext hE
    replace hR1 := hR1.ext hE
    refine obl_t rfl ?_
    refine opk_norm [(1, .pointer (some ⟨b1, 0, none⟩))] ⟨rfl, trivial⟩ (fun ρq => ?_)
    refine o_field rfl fa27_0 ?_
    exact ⟨Kp.refl _ _, rfl⟩
  · refine obl_mk rfl (fun w12k vs hE hkn => ?_)
    replace hK := hK.trans (Kp.ext hE)
    replace hB6 := hB6.ext hE
    replace hR0 := hR0.ext hE
    replace hR1 := hR1.ext hE
    refine obl_t rfl ?_
    refine opk_norm [(3, .pointer (some ⟨b1, 0, none⟩))] ⟨rfl, trivial⟩ (fun ρq => ?_)
    refine o_idxArr (i := 0) rfl rfl Tryd.underlying25 Tryd.sizeOf24 (by omega) (by omega) ?_
    exact ⟨Kp.refl _ _, rfl⟩
  · refine obl_mk rfl (fun w12k vs hE hkn => ?_)
    replace hK := hK.trans (Kp.ext hE)
    replace hB6 := hB6.ext hE
    replace hR0 := hR0.ext hE
    replace hR1 := hR1.ext hE
    refine obl_t rfl ?_
    refine opk_norm [(4, .pointer (some ⟨b1, 0, none⟩))] ⟨rfl, trivial⟩ (fun ρq => ?_)
    refine o_loadB (v := .slice a0 s0.length p0) rfl hB6 tyS24 rfl ?_
    exact ⟨Kp.refl _ _, rfl⟩
  · refine obl_mk rfl (fun w12k vs hE hkn => ?_)
    replace hK := hK.trans (Kp.ext hE)
    replace hB6 := hB6.ext hE
    replace hR0 := hR0.ext hE
    replace hR1 := hR1.ext hE
    refine obl_t rfl ?_
    refine opk_norm [(5, .slice a0 s0.length p0)] ⟨rfl, trivial⟩ (fun ρq => ?_)
    refine o_call (clone_ok _ _ s0 _ _ rfl (by omega) hR0) Tryd.call22 (fun v16 w17 hk18 hv19 => ?_)
    have hl_b1_w17 := hB6.lt
    have hs_w17 := hK.size
    obtain ⟨n3, ao3, c3, rfl, hn3x, hO3⟩ := hv19
    replace hK := hK.trans (Kp.ext hk18)
    replace hB6 := hB6.ext hk18
    replace hR0 := hR0.ext hk18
    replace hR1 := hR1.ext hk18
    subst hn3x
    have hS0 := (Rd.of_ownF hO3 (fun _ => rfl) rfl).mono (G := fun b => w.heap.size ≤ b) (fun b _ h => Nat.le_trans (by assumption) h)
    clear hO3
    exact ⟨hk18, ao3, c3, rfl, hS0⟩
  · refine obl_mk rfl (fun w12k vs hE hkn => ?_)
    replace hK := hK.trans (Kp.ext hE)
    replace hB6 := hB6.ext hE
    replace hR0 := hR0.ext hE
    replace hR1 := hR1.ext hE
    refine obl_t rfl ?_
    refine opk_norm [(1, .pointer (some ⟨b1, 0, none⟩))] ⟨rfl, trivial⟩ (fun ρq => ?_)
    refine o_field rfl fa27_0 ?_
    exact ⟨Kp.refl _ _, rfl⟩
  · refine obl_mk rfl (fun w12k vs hE hkn => ?_)
    replace hK := hK.trans (Kp.ext hE)
    replace hB6 := hB6.ext hE
    replace hR0 := hR0.ext hE
    replace hR1 := hR1.ext hE
    refine obl_t rfl ?_
    refine opk_norm [(7, .pointer (some ⟨b1, 0, none⟩))] ⟨rfl, trivial⟩ (fun ρq => ?_)
    refine o_idxArr (i := 1) rfl rfl Tryd.underlying25 Tryd.sizeOf24 (by omega) (by omega) ?_
    exact ⟨Kp.refl _ _, rfl⟩
  · refine obl_mk rfl (fun w12k vs hE hkn => ?_)
    replace hK := hK.trans (Kp.ext hE)
    replace hB6 := hB6.ext hE
    replace hR0 := hR0.ext hE
    replace hR1 := hR1.ext hE
    refine obl_t rfl ?_
    refine opk_norm [(8, .pointer (some ⟨b1, 1, none⟩))] ⟨rfl, trivial⟩ (fun ρq => ?_)
    refine o_loadB (v := .slice a1 s1.length p1) rfl hB6 tyS24 rfl ?_
    exact ⟨Kp.refl _ _, rfl⟩
  replace hK := hK.trans (Kp.ext hE14)
  replace hB6 := hB6.ext hE14
  replace hR0 := hR0.ext hE14
  replace hR1 := hR1.ext hE14
  obtain ⟨-, -, -, ⟨ao3, c3, hv3, hS0⟩, -, -, -, -⟩ := hkn15
  refine rl_norm [(6, .slice ao3 s0.length c3), (9, .slice a1 s1.length p1)] ⟨hv3, rfl, trivial⟩ (fun ρr11q => ?_)
  refine rl (o_call (clone_ok _ _ s1 _ _ rfl (by omega) hR1) Tryd.call22 (fun v20 w21 hk22 hv23 => ?_)) rfl
  have hl_b1_w21 := hB6.lt
  have hs_w21 := hK.size
  obtain ⟨n4, ao4, c4, rfl, hn4x, hO4⟩ := hv23
  replace hK := hK.trans (Kp.ext hk22)
  replace hB6 := hB6.ext hk22
  replace hR0 := hR0.ext hk22
  replace hR1 := hR1.ext hk22
  replace hS0 := hS0.ext hk22
  subst hn4x
  have hS1 := (Rd.of_ownF hO4 (fun _ => rfl) rfl).mono (G := fun b => w.heap.size ≤ b) (fun b _ h => Nat.le_trans (by assumption) h)
  clear hO4
  refine rl (o_buildSlice (vs := [.slice ao3 s0.length c3, .slice ao4 s1.length c4]) (n := 2) rfl Tryd.underlying33 elt24 rfl rfl (Nat.le_of_ble_eq_true rfl) (fun b24 w25 hb26 hz27 hk28 hB29 => ?_)) rfl
  replace hB29 : Box w25 b24 [.slice ao3 s0.length c3, .slice ao4 s1.length c4] 24 := hB29
  have hs_b24 := hK.size
  have hl_b1_b24 := hB6.lt
  replace hK := hK.trans (Kp.ext hk28)
  replace hB6 := hB6.ext hk28
  replace hR0 := hR0.ext hk28
  replace hR1 := hR1.ext hk28
  replace hS0 := hS0.ext hk28
  replace hS1 := hS1.ext hk28
  refine rl (o_assign (v := .slice ((some ⟨b24, 0, none⟩)) 2 2) rfl ?_) rfl
  refine rl_nil ?_
  refine cw_ret ?_
  refine ret_intro (v := .slice ((some ⟨b24, 0, none⟩)) 2 2) (res_ok (vs := [.slice ((some ⟨b24, 0, none⟩)) 2 2]) rfl ⟨rfl, trivial⟩) hK ?_
  exact ⟨b24, ao3, ao4, c3, c4, rfl, by have := hK.size; omega, hB29, hS0, hS1⟩
end Go.Proofs.YtcmlklnelipacaaDoor

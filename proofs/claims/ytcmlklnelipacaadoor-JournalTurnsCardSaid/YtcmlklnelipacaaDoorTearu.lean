import Derived.Test.YtcmlklnelipacaaDoorWri
set_option linter.unusedVariables false
set_option linter.unusedSimpArgs false
set_option maxRecDepth 100000
namespace Go.Proofs.YtcmlklnelipacaaDoor
open Go.RowKit Plain

theorem tearu0_ok (a0 a1 aw : Option Addr) (p0 p1 pw : Nat) (s0 s1 wa : List Int) (wr : Bool) (n : Int) (w : World) (hun : wr = false ∨ (s0.length : Int) ≤ max n 0) :
    Calls Tryd.prog 16 #[.agg #[.slice a0 s0.length p0, .slice a1 s1.length p1, .int .i64 (0), .slice aw wa.length pw, .bool (wr)], .int .i64 (n)] w (Ret Non w fun v w' => v = .agg #[.slice a0 s0.length p0, .slice a1 s1.length p1, .int .i64 (0), .slice aw wa.length pw, .bool (wr)]) := by
  have hK := Kp.refl Non w
  refine calls_cw Tryd.func16 rfl (Nat.le_of_ble_eq_true rfl) ?_
  refine cw_reg rfl ?_
  refine rl (o_box (v := .agg #[.slice a0 s0.length p0, .slice a1 s1.length p1, .int .i64 (0), .slice aw wa.length pw, .bool (wr)]) rfl (fun b1 w2 hb3 hz4 hk5 hB6 => ?_)) rfl
  replace hB6 : Box w2 b1 [.slice a0 s0.length p0, .slice a1 s1.length p1, .int .i64 (0), .slice aw wa.length pw, .bool (wr)] 27 := hB6
  have hs_b1 := hK.size
  replace hK := hK.trans (Kp.ext hk5)
  refine rl (o_alloc Tryd.zeroValue27 (fun b7 w8 hb9 hz10 hk11 hB12 => ?_)) rfl
  replace hB12 : Box w8 b7 [.slice none 0 0, .slice none 0 0, .int .i64 (0), .slice none 0 0, .bool (false)] 27 := hB12
  have hs_b7 := hK.size
  have hl_b1_b7 := hB6.lt
  replace hK := hK.trans (Kp.ext hk11)
  replace hB6 := hB6.ext hk11
  refine rl_nil ?_
  refine cw_reg rfl ?_
  refine rl (o_field rfl fa27_1 ?_) rfl
  refine rl (o_loadB (v := .int .i64 (0)) rfl hB6 tyS3 rfl ?_) rfl
  refine rl (o_field rfl fa27_0 ?_) rfl
  refine rl (o_idxArr (i := 0) rfl rfl Tryd.underlying25 Tryd.sizeOf24 (by omega) (by omega) ?_) rfl
  refine rl (o_loadB (v := .slice a0 s0.length p0) rfl hB6 tyS24 rfl ?_) rfl
  refine rl (o_assign (v := .slice a0 s0.length p0) rfl ?_) rfl
  refine rl_nil ?_
  refine cw_reg rfl ?_
  refine rl (o_move (v := .int .i64 (n)) rfl ?_) rfl
  refine rl (o_max rfl rfl ?_) rfl
  refine rl (o_assign (v := .int .i64 (max n 0)) rfl ?_) rfl
  refine rl_nil ?_
  refine cw_seq ?_
  refine cw_reg rfl ?_
  refine rl (o_field rfl fa27_3 ?_) rfl
  refine rl (o_loadB (v := .bool (wr)) rfl hB6 tyS4 rfl ?_) rfl
  refine rl (o_not rfl ?_) rfl
  refine rl (o_move (v := .bool (!wr)) rfl ?_) rfl
  rcases Bool.eq_false_or_eq_true (!wr) with h13 | h13
  · skip
    refine rlo ?_ (want_f rfl (h13) (by decide))
    refine rlo ?_ (want_f rfl (h13) (by decide))
    refine rlo ?_ (want_f rfl (h13) (by decide))
    refine rlo ?_ (want_f rfl (h13) (by decide))
    refine rl (o_pickT (v := .bool (true)) rfl (h13) rfl ?_) rfl
    refine rl_nil ?_
    refine cw_condT rfl ?_
    refine cw_reg rfl ?_
    refine rl (o_loadBA (ds := [.slice a0 s0.length p0, .slice a1 s1.length p1, .int .i64 (0), .slice aw wa.length pw, .bool (wr)]) rfl hB6 tyA27 rfl rfl ?_) rfl
    refine rl0 (o_storeA (vs := [.slice a0 s0.length p0, .slice a1 s1.length p1, .int .i64 (0), .slice aw wa.length pw, .bool (wr)]) rfl rfl hB12 tyA27 rfl rfl (Nat.le_of_ble_eq_true rfl) (fun w14 hk15 hz16 hB17 => ?_)) rfl
    replace hB17 : Box w14 b7 [.slice a0 s0.length p0, .slice a1 s1.length p1, .int .i64 (0), .slice aw wa.length pw, .bool (wr)] 27 := hB17
    replace hK := hK.later hk15 (fun i hi hS => by have h1 : i = b7 := hS; omega)
    replace hB6 := hB6.kp hk15 (by show ¬ b1 = b7; omega)
    replace hB12 := hB17
    refine rl_nil ?_
    refine cw_ret ?_
    refine k_tr ?_
    refine ret_intro (v := .agg #[.slice a0 s0.length p0, .slice a1 s1.length p1, .int .i64 (0), .slice aw wa.length pw, .bool (wr)]) (res_ok (vs := [.agg #[.slice a0 s0.length p0, .slice a1 s1.length p1, .int .i64 (0), .slice aw wa.length pw, .bool (wr)]]) rfl ⟨⟨_, rfl, run_loadA tyA27 rfl (hB12.at_ 0 5)⟩, trivial⟩) hK ?_
    exact rfl
  · skip
    refine rl (o_move (v := .int .i64 (max n 0)) rfl ?_) (want_t rfl (h13))
    refine rl (o_move (v := .slice a0 s0.length p0) rfl ?_) (want_t rfl (h13))
    refine rl (o_len rfl Tryd.underlying24 ?_) (want_t rfl (h13))
    refine rl (o_geq rfl rfl ?_) (want_t rfl (h13))
    refine rl (o_pickF (v := .bool (decide (((s0.length : Nat) : Int) ≤ max n 0))) rfl (h13) rfl ?_) rfl
    refine rl_nil ?_
    refine cw_if rfl (fun h18 => ?_) (fun h18 => ?_)
    · skip
      refine cw_reg rfl ?_
      refine rl (o_loadBA (ds := [.slice a0 s0.length p0, .slice a1 s1.length p1, .int .i64 (0), .slice aw wa.length pw, .bool (wr)]) rfl hB6 tyA27 rfl rfl ?_) rfl
      refine rl0 (o_storeA (vs := [.slice a0 s0.length p0, .slice a1 s1.length p1, .int .i64 (0), .slice aw wa.length pw, .bool (wr)]) rfl rfl hB12 tyA27 rfl rfl (Nat.le_of_ble_eq_true rfl) (fun w19 hk20 hz21 hB22 => ?_)) rfl
      replace hB22 : Box w19 b7 [.slice a0 s0.length p0, .slice a1 s1.length p1, .int .i64 (0), .slice aw wa.length pw, .bool (wr)] 27 := hB22
      replace hK := hK.later hk20 (fun i hi hS => by have h1 : i = b7 := hS; omega)
      replace hB6 := hB6.kp hk20 (by show ¬ b1 = b7; omega)
      replace hB12 := hB22
      refine rl_nil ?_
      refine cw_ret ?_
      refine k_tr ?_
      refine ret_intro (v := .agg #[.slice a0 s0.length p0, .slice a1 s1.length p1, .int .i64 (0), .slice aw wa.length pw, .bool (wr)]) (res_ok (vs := [.agg #[.slice a0 s0.length p0, .slice a1 s1.length p1, .int .i64 (0), .slice aw wa.length pw, .bool (wr)]]) rfl ⟨⟨_, rfl, run_loadA tyA27 rfl (hB12.at_ 0 5)⟩, trivial⟩) hK ?_
      exact rfl
    · skip
      exfalso; rcases hun with hun | hun <;> simp_all <;> omega -- done

theorem tearu1_ok (a0 a1 aw : Option Addr) (p0 p1 pw : Nat) (s0 s1 wa : List Int) (wr : Bool) (n : Int) (w : World) (hun : wr = false ∨ (s1.length : Int) ≤ max n 0) :
    Calls Tryd.prog 16 #[.agg #[.slice a0 s0.length p0, .slice a1 s1.length p1, .int .i64 (1), .slice aw wa.length pw, .bool (wr)], .int .i64 (n)] w (Ret Non w fun v w' => v = .agg #[.slice a0 s0.length p0, .slice a1 s1.length p1, .int .i64 (1), .slice aw wa.length pw, .bool (wr)]) := by
  have hK := Kp.refl Non w
  refine calls_cw Tryd.func16 rfl (Nat.le_of_ble_eq_true rfl) ?_
  refine cw_reg rfl ?_
  refine rl (o_box (v := .agg #[.slice a0 s0.length p0, .slice a1 s1.length p1, .int .i64 (1), .slice aw wa.length pw, .bool (wr)]) rfl (fun b1 w2 hb3 hz4 hk5 hB6 => ?_)) rfl
  replace hB6 : Box w2 b1 [.slice a0 s0.length p0, .slice a1 s1.length p1, .int .i64 (1), .slice aw wa.length pw, .bool (wr)] 27 := hB6
  have hs_b1 := hK.size
  replace hK := hK.trans (Kp.ext hk5)
  refine rl (o_alloc Tryd.zeroValue27 (fun b7 w8 hb9 hz10 hk11 hB12 => ?_)) rfl
  replace hB12 : Box w8 b7 [.slice none 0 0, .slice none 0 0, .int .i64 (0), .slice none 0 0, .bool (false)] 27 := hB12
  have hs_b7 := hK.size
  have hl_b1_b7 := hB6.lt
  replace hK := hK.trans (Kp.ext hk11)
  replace hB6 := hB6.ext hk11
  refine rl_nil ?_
  refine cw_reg rfl ?_
  refine rl (o_field rfl fa27_1 ?_) rfl
  refine rl (o_loadB (v := .int .i64 (1)) rfl hB6 tyS3 rfl ?_) rfl
  refine rl (o_field rfl fa27_0 ?_) rfl
  refine rl (o_idxArr (i := 1) rfl rfl Tryd.underlying25 Tryd.sizeOf24 (by omega) (by omega) ?_) rfl
  refine rl (o_loadB (v := .slice a1 s1.length p1) rfl hB6 tyS24 rfl ?_) rfl
  refine rl (o_assign (v := .slice a1 s1.length p1) rfl ?_) rfl
  refine rl_nil ?_
  refine cw_reg rfl ?_
  refine rl (o_move (v := .int .i64 (n)) rfl ?_) rfl
  refine rl (o_max rfl rfl ?_) rfl
  refine rl (o_assign (v := .int .i64 (max n 0)) rfl ?_) rfl
  refine rl_nil ?_
  refine cw_seq ?_
  refine cw_reg rfl ?_
  refine rl (o_field rfl fa27_3 ?_) rfl
  refine rl (o_loadB (v := .bool (wr)) rfl hB6 tyS4 rfl ?_) rfl
  refine rl (o_not rfl ?_) rfl
  refine rl (o_move (v := .bool (!wr)) rfl ?_) rfl
  rcases Bool.eq_false_or_eq_true (!wr) with h13 | h13
  · skip
    refine rlo ?_ (want_f rfl (h13) (by decide))
    refine rlo ?_ (want_f rfl (h13) (by decide))
    refine rlo ?_ (want_f rfl (h13) (by decide))
    refine rlo ?_ (want_f rfl (h13) (by decide))
    refine rl (o_pickT (v := .bool (true)) rfl (h13) rfl ?_) rfl
    refine rl_nil ?_
    refine cw_condT rfl ?_
    refine cw_reg rfl ?_
    refine rl (o_loadBA (ds := [.slice a0 s0.length p0, .slice a1 s1.length p1, .int .i64 (1), .slice aw wa.length pw, .bool (wr)]) rfl hB6 tyA27 rfl rfl ?_) rfl
    refine rl0 (o_storeA (vs := [.slice a0 s0.length p0, .slice a1 s1.length p1, .int .i64 (1), .slice aw wa.length pw, .bool (wr)]) rfl rfl hB12 tyA27 rfl rfl (Nat.le_of_ble_eq_true rfl) (fun w14 hk15 hz16 hB17 => ?_)) rfl
    replace hB17 : Box w14 b7 [.slice a0 s0.length p0, .slice a1 s1.length p1, .int .i64 (1), .slice aw wa.length pw, .bool (wr)] 27 := hB17
    replace hK := hK.later hk15 (fun i hi hS => by have h1 : i = b7 := hS; omega)
    replace hB6 := hB6.kp hk15 (by show ¬ b1 = b7; omega)
    replace hB12 := hB17
    refine rl_nil ?_
    refine cw_ret ?_
    refine k_tr ?_
    refine ret_intro (v := .agg #[.slice a0 s0.length p0, .slice a1 s1.length p1, .int .i64 (1), .slice aw wa.length pw, .bool (wr)]) (res_ok (vs := [.agg #[.slice a0 s0.length p0, .slice a1 s1.length p1, .int .i64 (1), .slice aw wa.length pw, .bool (wr)]]) rfl ⟨⟨_, rfl, run_loadA tyA27 rfl (hB12.at_ 0 5)⟩, trivial⟩) hK ?_
    exact rfl
  · skip
    refine rl (o_move (v := .int .i64 (max n 0)) rfl ?_) (want_t rfl (h13))
    refine rl (o_move (v := .slice a1 s1.length p1) rfl ?_) (want_t rfl (h13))
    refine rl (o_len rfl Tryd.underlying24 ?_) (want_t rfl (h13))
    refine rl (o_geq rfl rfl ?_) (want_t rfl (h13))
    refine rl (o_pickF (v := .bool (decide (((s1.length : Nat) : Int) ≤ max n 0))) rfl (h13) rfl ?_) rfl
    refine rl_nil ?_
    refine cw_if rfl (fun h18 => ?_) (fun h18 => ?_)
    · skip
      refine cw_reg rfl ?_
      refine rl (o_loadBA (ds := [.slice a0 s0.length p0, .slice a1 s1.length p1, .int .i64 (1), .slice aw wa.length pw, .bool (wr)]) rfl hB6 tyA27 rfl rfl ?_) rfl
      refine rl0 (o_storeA (vs := [.slice a0 s0.length p0, .slice a1 s1.length p1, .int .i64 (1), .slice aw wa.length pw, .bool (wr)]) rfl rfl hB12 tyA27 rfl rfl (Nat.le_of_ble_eq_true rfl) (fun w19 hk20 hz21 hB22 => ?_)) rfl
      replace hB22 : Box w19 b7 [.slice a0 s0.length p0, .slice a1 s1.length p1, .int .i64 (1), .slice aw wa.length pw, .bool (wr)] 27 := hB22
      replace hK := hK.later hk20 (fun i hi hS => by have h1 : i = b7 := hS; omega)
      replace hB6 := hB6.kp hk20 (by show ¬ b1 = b7; omega)
      replace hB12 := hB22
      refine rl_nil ?_
      refine cw_ret ?_
      refine k_tr ?_
      refine ret_intro (v := .agg #[.slice a0 s0.length p0, .slice a1 s1.length p1, .int .i64 (1), .slice aw wa.length pw, .bool (wr)]) (res_ok (vs := [.agg #[.slice a0 s0.length p0, .slice a1 s1.length p1, .int .i64 (1), .slice aw wa.length pw, .bool (wr)]]) rfl ⟨⟨_, rfl, run_loadA tyA27 rfl (hB12.at_ 0 5)⟩, trivial⟩) hK ?_
      exact rfl
    · skip
      exfalso; rcases hun with hun | hun <;> simp_all <;> omega -- done
end Go.Proofs.YtcmlklnelipacaaDoor

import Derived.Test.YtcmlklnelipacaaDoorWri
set_option linter.unusedVariables false
set_option linter.unusedSimpArgs false
set_option maxRecDepth 100000
namespace Go.Proofs.YtcmlklnelipacaaDoor
open Go.RowKit Plain

theorem within_ok (x lo hi : Int) (w : World)  :
    Calls Tryd.prog 31 #[.int .i64 (x), .int .i64 (lo), .int .i64 (hi)] w (Ret Non w fun v w' => v = .int .i64 (min (max x lo) hi)) := by
  have hK := Kp.refl Non w
  refine calls_cw Tryd.func31 rfl (Nat.le_of_ble_eq_true rfl) ?_
  refine cw_reg rfl ?_
  refine rl (o_assign (v := .int .i64 (0)) rfl ?_) rfl
  refine rl_nil ?_
  refine cw_reg rfl ?_
  refine rl (o_move (v := .int .i64 (x)) rfl ?_) rfl
  refine rl (o_move (v := .int .i64 (lo)) rfl ?_) rfl
  refine rl (o_max rfl rfl ?_) rfl
  refine rl (o_move (v := .int .i64 (hi)) rfl ?_) rfl
  refine rl (o_min rfl rfl ?_) rfl
  refine rl (o_assign (v := .int .i64 (min (max x lo) hi)) rfl ?_) rfl
  refine rl_nil ?_
  refine cw_ret ?_
  refine ret_intro (v := .int .i64 (min (max x lo) hi)) (res_ok (vs := [.int .i64 (min (max x lo) hi)]) rfl ⟨rfl, trivial⟩) hK ?_
  exact rfl

theorem few17_ok (ao : Option Addr) (n c : Nat) (w : World)  :
    Calls Tryd.prog 18 #[.slice ao n c] w (Ret Non w fun v w' => v = .bool (decide (((n : Nat) : Int) ≤ 100))) := by
  have hK := Kp.refl Non w
  refine calls_cw Tryd.func18 rfl (Nat.le_of_ble_eq_true rfl) ?_
  refine cw_reg rfl ?_
  refine rl (o_assign (v := .bool (false)) rfl ?_) rfl
  refine rl_nil ?_
  refine cw_reg rfl ?_
  refine rl (o_move (v := .slice ao n c) rfl ?_) rfl
  refine rl (o_len rfl Tryd.underlying49 ?_) rfl
  refine rl (o_leq rfl rfl ?_) rfl
  refine rl (o_assign (v := .bool (decide (((n : Nat) : Int) ≤ 100))) rfl ?_) rfl
  refine rl_nil ?_
  refine cw_ret ?_
  refine ret_intro (v := .bool (decide (((n : Nat) : Int) ≤ 100))) (res_ok (vs := [.bool (decide (((n : Nat) : Int) ≤ 100))]) rfl ⟨rfl, trivial⟩) hK ?_
  exact rfl
end Go.Proofs.YtcmlklnelipacaaDoor

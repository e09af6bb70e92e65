import Derived.Test.YtcmlklnelipacaaDoorWri
import Derived.Test.YtcmlklnelipacaaDoorLogI
set_option linter.unusedVariables false
set_option linter.unusedSimpArgs false
set_option maxRecDepth 100000
namespace Go.Proofs.YtcmlklnelipacaaDoor
open Go.RowKit Plain

set_option maxHeartbeats 8000000 in
theorem tear0_ok {F0 F1 Fw : Nat → Prop} (a0 a1 aw : Option Addr) (p0 p1 pw : Nat) (s0 s1 wa : List Int) (wr : Bool) (n : Int) (w : World) (hn0 : s0.length ≤ 1000000) (hn1 : s1.length ≤ 1000000) (hnw : wa.length ≤ 1000000) (hR0i : Rd F0 w 1 (.slice a0 s0.length p0) (s0.map encB)) (hR1 : Rd F1 w 1 (.slice a1 s1.length p1) (s1.map encB)) (hRw : Rd Fw w 1 (.slice aw wa.length pw) (wa.map encB)) :
    Calls Tryd.prog 16 #[.agg #[.slice a0 s0.length p0, .slice a1 s1.length p1, .int .i64 (0), .slice aw wa.length pw, .bool (wr)], .int .i64 (n)] w (Ret Non w fun v w' => ∃ (ao3 : Option Addr) (c3 : Nat), v = .agg #[.slice ao3 ((if wr = false ∨ (s0.length : Int) ≤ max n 0 then s0 else s0.take (max n 0).toNat ++ wa.drop (min (max n 0) (wa.length : Int)).toNat).length) c3, .slice a1 s1.length p1, .int .i64 (0), .slice aw wa.length pw, .bool (wr)] ∧ Rd (fun b => F0 b ∨ w.heap.size ≤ b) w' 1 (.slice ao3 ((if wr = false ∨ (s0.length : Int) ≤ max n 0 then s0 else s0.take (max n 0).toNat ++ wa.drop (min (max n 0) (wa.length : Int)).toNat).length) c3) ((if wr = false ∨ (s0.length : Int) ≤ max n 0 then s0 else s0.take (max n 0).toNat ++ wa.drop (min (max n 0) (wa.length : Int)).toNat).map encB)) := by
  have hK := Kp.refl Non w
  replace hR1 := hR1.old
  replace hRw := hRw.old
  have hR0 := hR0i.mono (G := fun b => F0 b ∧ b < w.heap.size) (fun b hb h => ⟨h, hb⟩)
  refine calls_cw Tryd.func16 rfl (Nat.le_of_ble_eq_true rfl) ?_
  refine cw_seq ?_
  refine cw_region rfl ?_
  refine rl (o_box (v := .agg #[.slice a0 s0.length p0, .slice a1 s1.length p1, .int .i64 (0), .slice aw wa.length pw, .bool (wr)]) rfl (fun b1 w2 hb3 hz4 hk5 hB6 => ?_)) rfl
  replace hB6 : Box w2 b1 [.slice a0 s0.length p0, .slice a1 s1.length p1, .int .i64 (0), .slice aw wa.length pw, .bool (wr)] 27 := hB6
  have hs_b1 := hK.size
  replace hK := hK.trans (Kp.ext hk5)
  replace hR1 := hR1.ext hk5
  replace hRw := hRw.ext hk5
  replace hR0 := hR0.ext hk5
  refine rl (o_alloc Tryd.zeroValue27 (fun b7 w8 hb9 hz10 hk11 hB12 => ?_)) rfl
  replace hB12 : Box w8 b7 [.slice none 0 0, .slice none 0 0, .int .i64 (0), .slice none 0 0, .bool (false)] 27 := hB12
  have hs_b7 := hK.size
  have hl_b1_b7 := hB6.lt
  replace hK := hK.trans (Kp.ext hk11)
  replace hB6 := hB6.ext hk11
  replace hR1 := hR1.ext hk11
  replace hRw := hRw.ext hk11
  replace hR0 := hR0.ext hk11
  refine rl_nil ?_
  refine k_tn ?_
  refine cw_norm [(1, .int .i64 (n)), (2, .pointer (some ⟨b1, 0, none⟩)), (4, .pointer (some ⟨b7, 0, none⟩))] ⟨rfl, rfl, rfl, trivial⟩ (fun ρn13 => ?_)
  refine cw_seq ?_
  refine cw_region rfl ?_
  refine rl (o_field rfl fa27_1 ?_) rfl
  refine rl (o_loadB (v := .int .i64 (0)) rfl hB6 tyS3 rfl ?_) rfl
  refine rl (o_field rfl fa27_0 ?_) rfl
  refine rl (o_idxArr (i := 0) rfl rfl Tryd.underlying25 Tryd.sizeOf24 (by omega) (by omega) ?_) rfl
  refine rl (o_loadB (v := .slice a0 s0.length p0) rfl hB6 tyS24 rfl ?_) rfl
  refine rl (o_assign (v := .slice a0 s0.length p0) rfl ?_) rfl
  refine rl_nil ?_
  refine k_tn ?_
  refine cw_norm [(1, .int .i64 (n)), (2, .pointer (some ⟨b1, 0, none⟩)), (4, .pointer (some ⟨b7, 0, none⟩)), (5, .slice a0 s0.length p0)] ⟨rfl, rfl, rfl, rfl, trivial⟩ (fun ρn14 => ?_)
  refine cw_seq ?_
  refine cw_region rfl ?_
  refine rl (o_move (v := .int .i64 (n)) rfl ?_) rfl
  refine rl (o_max rfl rfl ?_) rfl
  refine rl (o_assign (v := .int .i64 (max n 0)) rfl ?_) rfl
  refine rl_nil ?_
  refine k_tn ?_
  refine cw_norm [(1, .int .i64 (max n 0)), (2, .pointer (some ⟨b1, 0, none⟩)), (4, .pointer (some ⟨b7, 0, none⟩)), (5, .slice a0 s0.length p0)] ⟨rfl, rfl, rfl, rfl, trivial⟩ (fun ρn15 => ?_)
  refine cw_seq ?_
  refine cw_seq ?_
  refine cw_region rfl ?_
  refine rl (o_field rfl fa27_3 ?_) rfl
  refine rl (o_loadB (v := .bool (wr)) rfl hB6 tyS4 rfl ?_) rfl
  refine rl (o_not rfl ?_) rfl
  refine rl (o_move (v := .bool (!wr)) rfl ?_) rfl
  rcases Bool.eq_false_or_eq_true (!wr) with h16 | h16
  · skip
    refine rlo ?_ (want_f rfl (h16) (by decide))
    refine rlo ?_ (want_f rfl (h16) (by decide))
    refine rlo ?_ (want_f rfl (h16) (by decide))
    refine rlo ?_ (want_f rfl (h16) (by decide))
    refine rl (o_pickT (v := .bool (true)) rfl (h16) rfl ?_) rfl
    refine rl_nil ?_
    refine k_tn ?_
    refine cw_norm [(1, .int .i64 (max n 0)), (2, .pointer (some ⟨b1, 0, none⟩)), (4, .pointer (some ⟨b7, 0, none⟩)), (5, .slice a0 s0.length p0), (21, .bool (true))] ⟨rfl, rfl, rfl, rfl, rfl, trivial⟩ (fun ρn17 => ?_)
    refine cw_condT rfl ?_
    refine cw_reg rfl ?_
    refine rl (o_loadBA (ds := [.slice a0 s0.length p0, .slice a1 s1.length p1, .int .i64 (0), .slice aw wa.length pw, .bool (wr)]) rfl hB6 tyA27 rfl rfl ?_) rfl
    refine rl0 (o_storeA (vs := [.slice a0 s0.length p0, .slice a1 s1.length p1, .int .i64 (0), .slice aw wa.length pw, .bool (wr)]) rfl rfl hB12 tyA27 rfl rfl (Nat.le_of_ble_eq_true rfl) (fun w18 hk19 hz20 hB21 => ?_)) rfl
    replace hB21 : Box w18 b7 [.slice a0 s0.length p0, .slice a1 s1.length p1, .int .i64 (0), .slice aw wa.length pw, .bool (wr)] 27 := hB21
    replace hK := hK.later hk19 (fun i hi hS => by have h1 : i = b7 := hS; omega)
    replace hB6 := hB6.kp hk19 (by show ¬ b1 = b7; omega)
    replace hR1 := hR1.kp hk19 (fun i _ hF hS => by have h1 : i < w.heap.size := hF; have h2 : i = b7 := hS; omega)
    replace hRw := hRw.kp hk19 (fun i _ hF hS => by have h1 : i < w.heap.size := hF; have h2 : i = b7 := hS; omega)
    replace hR0 := hR0.kp hk19 (fun i _ hF hS => by have h1 : F0 i ∧ i < w.heap.size := hF; have h2 : i = b7 := hS; omega)
    replace hB12 := hB21
    refine rl_nil ?_
    refine cw_ret ?_
    refine k_tr ?_
    refine ret_intro (v := .agg #[.slice a0 s0.length p0, .slice a1 s1.length p1, .int .i64 (0), .slice aw wa.length pw, .bool (wr)]) (res_ok (vs := [.agg #[.slice a0 s0.length p0, .slice a1 s1.length p1, .int .i64 (0), .slice aw wa.length pw, .bool (wr)]]) rfl ⟨⟨_, rfl, run_loadA tyA27 rfl (hB12.at_ 0 5)⟩, trivial⟩) hK ?_
    exact ⟨a0, p0, by rw [if_pos (by simp_all)], by rw [if_pos (by simp_all)]; exact hR0.mono (fun b _ h => .inl h.1)⟩
  · skip
    refine rl (o_move (v := .int .i64 (max n 0)) rfl ?_) (want_t rfl (h16))
    refine rl (o_move (v := .slice a0 s0.length p0) rfl ?_) (want_t rfl (h16))
    refine rl (o_len rfl Tryd.underlying24 ?_) (want_t rfl (h16))
    refine rl (o_geq rfl rfl ?_) (want_t rfl (h16))
    refine rl (o_pickF (v := .bool (decide (((s0.length : Nat) : Int) ≤ max n 0))) rfl (h16) rfl ?_) rfl
    refine rl_nil ?_
    refine k_tn ?_
    refine cw_norm [(1, .int .i64 (max n 0)), (2, .pointer (some ⟨b1, 0, none⟩)), (4, .pointer (some ⟨b7, 0, none⟩)), (5, .slice a0 s0.length p0), (21, .bool (decide (((s0.length : Nat) : Int) ≤ max n 0)))] ⟨rfl, rfl, rfl, rfl, rfl, trivial⟩ (fun ρn22 => ?_)
    refine cw_if rfl (fun h23 => ?_) (fun h23 => ?_)
    · skip
      refine cw_reg rfl ?_
      refine rl (o_loadBA (ds := [.slice a0 s0.length p0, .slice a1 s1.length p1, .int .i64 (0), .slice aw wa.length pw, .bool (wr)]) rfl hB6 tyA27 rfl rfl ?_) rfl
      refine rl0 (o_storeA (vs := [.slice a0 s0.length p0, .slice a1 s1.length p1, .int .i64 (0), .slice aw wa.length pw, .bool (wr)]) rfl rfl hB12 tyA27 rfl rfl (Nat.le_of_ble_eq_true rfl) (fun w24 hk25 hz26 hB27 => ?_)) rfl
      replace hB27 : Box w24 b7 [.slice a0 s0.length p0, .slice a1 s1.length p1, .int .i64 (0), .slice aw wa.length pw, .bool (wr)] 27 := hB27
      replace hK := hK.later hk25 (fun i hi hS => by have h1 : i = b7 := hS; omega)
      replace hB6 := hB6.kp hk25 (by show ¬ b1 = b7; omega)
      replace hR1 := hR1.kp hk25 (fun i _ hF hS => by have h1 : i < w.heap.size := hF; have h2 : i = b7 := hS; omega)
      replace hRw := hRw.kp hk25 (fun i _ hF hS => by have h1 : i < w.heap.size := hF; have h2 : i = b7 := hS; omega)
      replace hR0 := hR0.kp hk25 (fun i _ hF hS => by have h1 : F0 i ∧ i < w.heap.size := hF; have h2 : i = b7 := hS; omega)
      replace hB12 := hB27
      refine rl_nil ?_
      refine cw_ret ?_
      refine k_tr ?_
      refine ret_intro (v := .agg #[.slice a0 s0.length p0, .slice a1 s1.length p1, .int .i64 (0), .slice aw wa.length pw, .bool (wr)]) (res_ok (vs := [.agg #[.slice a0 s0.length p0, .slice a1 s1.length p1, .int .i64 (0), .slice aw wa.length pw, .bool (wr)]]) rfl ⟨⟨_, rfl, run_loadA tyA27 rfl (hB12.at_ 0 5)⟩, trivial⟩) hK ?_
      exact ⟨a0, p0, by rw [if_pos (by simp_all)], by rw [if_pos (by simp_all)]; exact hR0.mono (fun b _ h => .inl h.1)⟩
    · skip
      refine cw_skip ?_
      refine k_tn ?_
      refine cw_norm [(1, .int .i64 (max n 0)), (2, .pointer (some ⟨b1, 0, none⟩)), (4, .pointer (some ⟨b7, 0, none⟩)), (5, .slice a0 s0.length p0)] ⟨rfl, rfl, rfl, rfl, trivial⟩ (fun ρn28 => ?_)
      have hl_b1_d1 := hB6.lt
      have hl_b7_d1 := hB12.lt
      refine cw_norm [(1, .int .i64 (max n 0)), (2, .pointer (some ⟨b1, 0, none⟩)), (4, .pointer (some ⟨b7, 0, none⟩)), (5, .slice a0 s0.length p0)] ⟨rfl, rfl, rfl, rfl, trivial⟩ (fun ρr38 => ?_)
      have hsr := hK.size
      refine cw_drawnS (fun k => w8.heap.size ≤ k) 14 [.val (.pointer (some ⟨b1, 2, none⟩)), .val (.int .i64 (0)), .val (.slice a0 s0.length p0), .val (.int .i64 (max n 0)), .fact (fun v w' => ∃ (aoq : Option Addr) (cq : Nat), v = .slice aoq ((max n 0).toNat) cq ∧ (Rd (fun b => F0 b ∧ b < w.heap.size) w' 1 (.slice aoq ((max n 0).toNat) cq) ((s0.take (max n 0).toNat).map encB))), .fact (fun v w' => ∃ (n3 : Nat) (ao3 : Option Addr) (c3 : Nat), v = .slice ao3 n3 c3 ∧ (n3 = min (max n 0).toNat s0.length)), .val (.pointer (some ⟨b1, 3, none⟩)), .val (.slice aw wa.length pw), .val (.int .i64 (max n 0)), .val (.pointer (some ⟨b1, 3, none⟩)), .val (.slice aw wa.length pw), .val (.int .i64 (((wa.length : Nat) : Int))), .val (.int .i64 (min (max n 0) ((wa.length : Nat) : Int))), .fact (fun v w' => ∃ (aoz : Option Addr) (cz : Nat), v = .slice aoz (wa.length - (min (max n 0) ((wa.length : Nat) : Int)).toNat) cz ∧ (Rd (fun b => b < w.heap.size) w' 1 (.slice aoz (wa.length - (min (max n 0) ((wa.length : Nat) : Int)).toNat) cz) ((wa.drop (min (max n 0) ((wa.length : Nat) : Int)).toNat).map encB))), .fact (fun v w' => ∃ (n3 : Nat) (ao3 : Option Addr) (c3 : Nat) (ao33 : Option Addr) (c34 : Nat), v = .slice ao33 (n3 + (wa.length - (min (max n 0) ((wa.length : Nat) : Int)).toNat)) c34 ∧ (n3 = min (max n 0).toNat s0.length) ∧ (w'.ownsRow w8.heap.size 5 1 (.slice ao33 (n3 + (wa.length - (min (max n 0) ((wa.length : Nat) : Int)).toNat)) c34) (n3 + (wa.length - (min (max n 0) ((wa.length : Nat) : Int)).toNat)) ((s0.take (max n 0).toNat ++ (wa.drop (min (max n 0) ((wa.length : Nat) : Int)).toNat)).flatMap encB))), .val (.pointer (some ⟨b1, 0, none⟩))] [.val (.pointer (some ⟨b1, 2, none⟩)), .val (.int .i64 (0)), .val (.slice a0 s0.length p0), .val (.int .i64 (max n 0)), .fact (fun v w' => ∃ (aoq : Option Addr) (cq : Nat), v = .slice aoq ((max n 0).toNat) cq ∧ (Rd (fun b => F0 b ∧ b < w.heap.size) w' 1 (.slice aoq ((max n 0).toNat) cq) ((s0.take (max n 0).toNat).map encB))), .fact (fun v w' => ∃ (n3 : Nat) (ao3 : Option Addr) (c3 : Nat), v = .slice ao3 n3 c3 ∧ (w'.ownsRow w8.heap.size 5 1 (.slice ao3 n3 c3) n3 ((s0.take (max n 0).toNat).flatMap encB)) ∧ (n3 = min (max n 0).toNat s0.length)), .val (.pointer (some ⟨b1, 3, none⟩)), .val (.slice aw wa.length pw), .val (.int .i64 (max n 0)), .val (.pointer (some ⟨b1, 3, none⟩)), .val (.slice aw wa.length pw), .val (.int .i64 (((wa.length : Nat) : Int))), .val (.int .i64 (min (max n 0) ((wa.length : Nat) : Int))), .fact (fun v w' => ∃ (aoz : Option Addr) (cz : Nat), v = .slice aoz (wa.length - (min (max n 0) ((wa.length : Nat) : Int)).toNat) cz ∧ (Rd (fun b => b < w.heap.size) w' 1 (.slice aoz (wa.length - (min (max n 0) ((wa.length : Nat) : Int)).toNat) cz) ((wa.drop (min (max n 0) ((wa.length : Nat) : Int)).toNat).map encB))), .fact (fun v w' => ∃ (n3 : Nat) (ao3 : Option Addr) (c3 : Nat) (ao33 : Option Addr) (c34 : Nat), v = .slice ao33 (n3 + (wa.length - (min (max n 0) ((wa.length : Nat) : Int)).toNat)) c34 ∧ (n3 = min (max n 0).toNat s0.length) ∧ (w'.ownsRow w8.heap.size 5 1 (.slice ao33 (n3 + (wa.length - (min (max n 0) ((wa.length : Nat) : Int)).toNat)) c34) (n3 + (wa.length - (min (max n 0) ((wa.length : Nat) : Int)).toNat)) ((s0.take (max n 0).toNat ++ (wa.drop (min (max n 0) ((wa.length : Nat) : Int)).toNat)).flatMap encB))), .val (.pointer (some ⟨b1, 0, none⟩))] [[], [0], [], [], [2, 3], [2, 3, 4], [], [6], [], [], [9], [9, 10], [8, 9, 10, 11], [6, 7, 8, 9, 10, 11, 12], [2, 3, 4, 5, 6, 7, 8, 9, 10, 11, 12, 13], [], [0, 1, 2, 3, 4, 5, 6, 7, 8, 9, 10, 11, 12, 13, 14, 15], [0, 1, 2, 3, 4, 5, 6, 7, 8, 9, 10, 11, 12, 13, 14, 15, 16]] 16 mixed (by kernel_rfl) ⟨upS_no rfl rfl trivial, upS_no rfl rfl trivial, upS_pre rfl rfl trivial trivial (fun _ _ h => h), upS_pre rfl rfl trivial trivial (fun _ _ h => h), upS_pre rfl rfl (fun vq wq wq' ⟨aoq, cq, hv, hQ⟩ hk => ⟨aoq, cq, hv, hQ.ext hk⟩) (fun vq wq wq' ⟨aoq, cq, hv, hQ⟩ hk => ⟨aoq, cq, hv, hQ.kp hk (fun i _ hF hS => by have h1 : F0 i ∧ i < w.heap.size := hF; have h2 : w8.heap.size ≤ i := hS; omega)⟩) (fun vq wq ⟨aoq, cq, hv, hQ⟩ => ⟨aoq, cq, hv, hQ⟩), upS_pre rfl rfl (fun vq wq wq' ⟨n3, ao3, c3, hv, hO, hn3⟩ hk => ⟨n3, ao3, c3, hv, own_kp hO hk (fun _ _ _ x => x), hn3⟩) (fun vq wq wq' ⟨n3, ao3, c3, hv, hn3⟩ hk => ⟨n3, ao3, c3, hv, hn3⟩) (fun vq wq ⟨n3, ao3, c3, hv, hO, hn3⟩ => ⟨n3, ao3, c3, hv, hn3⟩), upS_pre rfl rfl trivial trivial (fun _ _ h => h), upS_pre rfl rfl trivial trivial (fun _ _ h => h), upS_pre rfl rfl trivial trivial (fun _ _ h => h), upS_pre rfl rfl trivial trivial (fun _ _ h => h), upS_pre rfl rfl trivial trivial (fun _ _ h => h), upS_pre rfl rfl trivial trivial (fun _ _ h => h), upS_pre rfl rfl trivial trivial (fun _ _ h => h), upS_pre rfl rfl (fun vq wq wq' ⟨aoz, cz, hv, hZ⟩ hk => ⟨aoz, cz, hv, hZ.ext hk⟩) (fun vq wq wq' ⟨aoz, cz, hv, hZ⟩ hk => ⟨aoz, cz, hv, hZ.kp hk (fun i _ hF hS => by have h1 : i < w.heap.size := hF; have h2 : w8.heap.size ≤ i := hS; omega)⟩) (fun vq wq ⟨aoz, cz, hv, hZ⟩ => ⟨aoz, cz, hv, hZ⟩), upS_one rfl (fun vq wq wq' ⟨n3, ao3, c3, ao33, c34, hv, hn3, hO⟩ hk => ⟨n3, ao3, c3, ao33, c34, hv, hn3, own_kp hO hk (fun _ _ _ x => x)⟩), upS_no rfl rfl trivial, trivial⟩ ⟨⟨⟨⟨⟨⟨⟨⟨⟨⟨⟨⟨⟨⟨⟨⟨trivial, ?_⟩, ?_⟩, ?_⟩, ?_⟩, ?_⟩, ?_⟩, ?_⟩, ?_⟩, ?_⟩, ?_⟩, ?_⟩, ?_⟩, ?_⟩, ?_⟩, ?_⟩, ?_⟩ (fun w39 vs40 hE41 hkn42 => ?_)
      · refine oblS_post rfl rfl (fun w39k vs hE hkn => ?_)
        have hEs := hE.size
        replace hK := hK.later hE (fun i hi hS => by have h1 : w8.heap.size ≤ i := hS; have := hK.size; omega)
        replace hB6 := hB6.kp hE (by show ¬ (w8.heap.size ≤ b1); omega)
        replace hB12 := hB12.kp hE (by show ¬ (w8.heap.size ≤ b7); omega)
        replace hR1 := hR1.kp hE (fun i _ hF hS => by have h1 : i < w.heap.size := hF; have h2 : w8.heap.size ≤ i := hS; omega)
        replace hRw := hRw.kp hE (fun i _ hF hS => by have h1 : i < w.heap.size := hF; have h2 : w8.heap.size ≤ i := hS; omega)
        replace hR0 := hR0.kp hE (fun i _ hF hS => by have h1 : F0 i ∧ i < w.heap.size := hF; have h2 : w8.heap.size ≤ i := hS; omega)
        refine oblS_n rfl ?_
        refine opk_norm [(2, .pointer (some ⟨b1, 0, none⟩))] ⟨rfl, trivial⟩ (fun ρq => ?_)
        refine o_field rfl fa27_1 ?_
        exact ⟨Kp.refl _ _, rfl⟩
      · refine oblS_post rfl rfl (fun w39k vs hE hkn => ?_)
        have hEs := hE.size
        replace hK := hK.later hE (fun i hi hS => by have h1 : w8.heap.size ≤ i := hS; have := hK.size; omega)
        replace hB6 := hB6.kp hE (by show ¬ (w8.heap.size ≤ b1); omega)
        replace hB12 := hB12.kp hE (by show ¬ (w8.heap.size ≤ b7); omega)
        replace hR1 := hR1.kp hE (fun i _ hF hS => by have h1 : i < w.heap.size := hF; have h2 : w8.heap.size ≤ i := hS; omega)
        replace hRw := hRw.kp hE (fun i _ hF hS => by have h1 : i < w.heap.size := hF; have h2 : w8.heap.size ≤ i := hS; omega)
        replace hR0 := hR0.kp hE (fun i _ hF hS => by have h1 : F0 i ∧ i < w.heap.size := hF; have h2 : w8.heap.size ≤ i := hS; omega)
        refine oblS_n rfl ?_
        refine opk_norm [(23, .pointer (some ⟨b1, 2, none⟩))] ⟨rfl, trivial⟩ (fun ρq => ?_)
        refine o_loadB (v := .int .i64 (0)) rfl hB6 tyS3 rfl ?_
        exact ⟨Kp.refl _ _, rfl⟩
      · refine oblS_pre rfl rfl (fun w39k vs hE hkn => ?_)
        have hEs := hE.size
        replace hK := hK.trans (Kp.ext hE)
        replace hB6 := hB6.ext hE
        replace hB12 := hB12.ext hE
        replace hR1 := hR1.ext hE
        replace hRw := hRw.ext hE
        replace hR0 := hR0.ext hE
        refine oblS_p rfl rfl ?_
        refine opk_norm [(5, .slice a0 s0.length p0)] ⟨rfl, trivial⟩ (fun ρq => ?_)
        refine o_move (v := .slice a0 s0.length p0) rfl ?_
        exact ⟨Kp.refl _ _, rfl⟩
      · refine oblS_pre rfl rfl (fun w39k vs hE hkn => ?_)
        have hEs := hE.size
        replace hK := hK.trans (Kp.ext hE)
        replace hB6 := hB6.ext hE
        replace hB12 := hB12.ext hE
        replace hR1 := hR1.ext hE
        replace hRw := hRw.ext hE
        replace hR0 := hR0.ext hE
        refine oblS_p rfl rfl ?_
        refine opk_norm [(1, .int .i64 (max n 0))] ⟨rfl, trivial⟩ (fun ρq => ?_)
        refine o_move (v := .int .i64 (max n 0)) rfl ?_
        exact ⟨Kp.refl _ _, rfl⟩
      · refine oblS_pre rfl rfl (fun w39k vs hE hkn => ?_)
        have hEs := hE.size
        replace hK := hK.trans (Kp.ext hE)
        replace hB6 := hB6.ext hE
        replace hB12 := hB12.ext hE
        replace hR1 := hR1.ext hE
        replace hRw := hRw.ext hE
        replace hR0 := hR0.ext hE
        refine oblS_p rfl rfl ?_
        refine opk_norm [(25, .slice a0 s0.length p0), (26, .int .i64 (max n 0))] ⟨rfl, rfl, trivial⟩ (fun ρq => ?_)
        refine o_sliceTo (i := max n 0) rfl rfl Tryd.underlying24 Tryd.sizeOf5 hR0 (by omega) (by simp only [List.length_map]; omega) (fun aoq cq hQ => ?_)
        replace hQ : Rd (fun b => F0 b ∧ b < w.heap.size) w39k 1 (.slice aoq ((max n 0).toNat) cq) ((s0.take (max n 0).toNat).map encB) := by first | exact hQ | (simp only [← List.map_drop, ← List.map_take] at hQ; exact hQ)
        exact ⟨Kp.refl _ _, aoq, cq, rfl, hQ⟩
      · refine oblS_pre rfl rfl (fun w39k vs hE hkn => ?_)
        have hEs := hE.size
        replace hK := hK.trans (Kp.ext hE)
        replace hB6 := hB6.ext hE
        replace hB12 := hB12.ext hE
        replace hR1 := hR1.ext hE
        replace hRw := hRw.ext hE
        replace hR0 := hR0.ext hE
        obtain ⟨-, -, ⟨aoq, cq, hv4, hQ⟩, -⟩ := hkn
        refine oblS_p rfl rfl ?_
        refine opk_norm [(27, .slice aoq ((max n 0).toNat) cq)] ⟨hv4, trivial⟩ (fun ρq => ?_)
        refine o_call (clone_ok _ _ (s0.take (max n 0).toNat) _ _ (by simp; omega) (by simp; omega) hQ) Tryd.call22 (fun v43 w44 hk45 hv46 => ?_)
        have hl_b1_w44 := hB6.lt
        have hl_b7_w44 := hB12.lt
        have hs_w44 := hK.size
        obtain ⟨n3, ao3, c3, rfl, hn3, hO3⟩ := hv46
        replace hK := hK.trans (Kp.ext hk45)
        replace hB6 := hB6.ext hk45
        replace hB12 := hB12.ext hk45
        replace hR1 := hR1.ext hk45
        replace hRw := hRw.ext hk45
        replace hR0 := hR0.ext hk45
        replace hQ := hQ.ext hk45
        have hO := own_mono (base' := w8.heap.size) hO3 (by omega)
        clear hO3
        rw [List.length_take] at hn3
        exact ⟨hk45, n3, ao3, c3, rfl, hO, hn3⟩
      · refine oblS_pre rfl rfl (fun w39k vs hE hkn => ?_)
        have hEs := hE.size
        replace hK := hK.trans (Kp.ext hE)
        replace hB6 := hB6.ext hE
        replace hB12 := hB12.ext hE
        replace hR1 := hR1.ext hE
        replace hRw := hRw.ext hE
        replace hR0 := hR0.ext hE
        refine oblS_p rfl rfl ?_
        refine opk_norm [(2, .pointer (some ⟨b1, 0, none⟩))] ⟨rfl, trivial⟩ (fun ρq => ?_)
        refine o_field rfl fa27_2 ?_
        exact ⟨Kp.refl _ _, rfl⟩
      · refine oblS_pre rfl rfl (fun w39k vs hE hkn => ?_)
        have hEs := hE.size
        replace hK := hK.trans (Kp.ext hE)
        replace hB6 := hB6.ext hE
        replace hB12 := hB12.ext hE
        replace hR1 := hR1.ext hE
        replace hRw := hRw.ext hE
        replace hR0 := hR0.ext hE
        refine oblS_p rfl rfl ?_
        refine opk_norm [(29, .pointer (some ⟨b1, 3, none⟩))] ⟨rfl, trivial⟩ (fun ρq => ?_)
        refine o_loadB (v := .slice aw wa.length pw) rfl hB6 tyS24 rfl ?_
        exact ⟨Kp.refl _ _, rfl⟩
      · refine oblS_pre rfl rfl (fun w39k vs hE hkn => ?_)
        have hEs := hE.size
        replace hK := hK.trans (Kp.ext hE)
        replace hB6 := hB6.ext hE
        replace hB12 := hB12.ext hE
        replace hR1 := hR1.ext hE
        replace hRw := hRw.ext hE
        replace hR0 := hR0.ext hE
        refine oblS_p rfl rfl ?_
        refine opk_norm [(1, .int .i64 (max n 0))] ⟨rfl, trivial⟩ (fun ρq => ?_)
        refine o_move (v := .int .i64 (max n 0)) rfl ?_
        exact ⟨Kp.refl _ _, rfl⟩
      · refine oblS_pre rfl rfl (fun w39k vs hE hkn => ?_)
        have hEs := hE.size
        replace hK := hK.trans (Kp.ext hE)
        replace hB6 := hB6.ext hE
        replace hB12 := hB12.ext hE
        replace hR1 := hR1.ext hE
        replace hRw := hRw.ext hE
        replace hR0 := hR0.ext hE
        refine oblS_p rfl rfl ?_
        refine opk_norm [(2, .pointer (some ⟨b1, 0, none⟩))] ⟨rfl, trivial⟩ (fun ρq => ?_)
        refine o_field rfl fa27_2 ?_
        exact ⟨Kp.refl _ _, rfl⟩
      · refine oblS_pre rfl rfl (fun w39k vs hE hkn => ?_)
        have hEs := hE.size
        replace hK := hK.trans (Kp.ext hE)
        replace hB6 := hB6.ext hE
        replace hB12 := hB12.ext hE
        replace hR1 := hR1.ext hE
        replace hRw := hRw.ext hE
        replace hR0 := hR0.ext hE
        refine oblS_p rfl rfl ?_
        refine opk_norm [(32, .pointer (some ⟨b1, 3, none⟩))] ⟨rfl, trivial⟩ (fun ρq => ?_)
        refine o_loadB (v := .slice aw wa.length pw) rfl hB6 tyS24 rfl ?_
        exact ⟨Kp.refl _ _, rfl⟩
      · refine oblS_pre rfl rfl (fun w39k vs hE hkn => ?_)
        have hEs := hE.size
        replace hK := hK.trans (Kp.ext hE)
        replace hB6 := hB6.ext hE
        replace hB12 := hB12.ext hE
        replace hR1 := hR1.ext hE
        replace hRw := hRw.ext hE
        replace hR0 := hR0.ext hE
        refine oblS_p rfl rfl ?_
        refine opk_norm [(33, .slice aw wa.length pw)] ⟨rfl, trivial⟩ (fun ρq => ?_)
        refine o_len rfl Tryd.underlying24 ?_
        exact ⟨Kp.refl _ _, rfl⟩
      · refine oblS_pre rfl rfl (fun w39k vs hE hkn => ?_)
        have hEs := hE.size
        replace hK := hK.trans (Kp.ext hE)
        replace hB6 := hB6.ext hE
        replace hB12 := hB12.ext hE
        replace hR1 := hR1.ext hE
        replace hRw := hRw.ext hE
        replace hR0 := hR0.ext hE
        refine oblS_p rfl rfl ?_
        refine opk_norm [(31, .int .i64 (max n 0)), (34, .int .i64 (((wa.length : Nat) : Int)))] ⟨rfl, rfl, trivial⟩ (fun ρq => ?_)
        refine o_min rfl rfl ?_
        exact ⟨Kp.refl _ _, rfl⟩
      · refine oblS_pre rfl rfl (fun w39k vs hE hkn => ?_)
        have hEs := hE.size
        replace hK := hK.trans (Kp.ext hE)
        replace hB6 := hB6.ext hE
        replace hB12 := hB12.ext hE
        replace hR1 := hR1.ext hE
        replace hRw := hRw.ext hE
        replace hR0 := hR0.ext hE
        refine oblS_p rfl rfl ?_
        refine opk_norm [(30, .slice aw wa.length pw), (35, .int .i64 (min (max n 0) ((wa.length : Nat) : Int)))] ⟨rfl, rfl, trivial⟩ (fun ρq => ?_)
        refine o_sliceFrom (i := min (max n 0) ((wa.length : Nat) : Int)) rfl rfl Tryd.underlying24 Tryd.sizeOf5 hRw (by omega) (by simp only [List.length_map]; omega) (fun aoz cz hZ => ?_)
        replace hZ : Rd (fun b => b < w.heap.size) w39k 1 (.slice aoz (wa.length - (min (max n 0) ((wa.length : Nat) : Int)).toNat) cz) ((wa.drop (min (max n 0) ((wa.length : Nat) : Int)).toNat).map encB) := by first | exact hZ | (simp only [← List.map_drop, ← List.map_take] at hZ; exact hZ)
        exact ⟨Kp.refl _ _, aoz, cz, rfl, hZ⟩
      · refine oblS_pre rfl rfl (fun w39k vs hE hkn => ?_)
        have hEs := hE.size
        replace hK := hK.trans (Kp.ext hE)
        replace hB6 := hB6.ext hE
        replace hB12 := hB12.ext hE
        replace hR1 := hR1.ext hE
        replace hRw := hRw.ext hE
        replace hR0 := hR0.ext hE
        obtain ⟨-, -, -, ⟨n3, ao3, c3, hv5, hO, hn3⟩, -, -, -, -, -, -, -, ⟨aoz, cz, hv13, hZ⟩, -⟩ := hkn
        refine oblS_s rfl ?_
        refine opk_norm [(28, .slice ao3 n3 c3), (36, .slice aoz (wa.length - (min (max n 0) ((wa.length : Nat) : Int)).toNat) cz)] ⟨hv5, hv13, trivial⟩ (fun ρq => ?_)
        refine o_appendR (css := (wa.drop (min (max n 0) ((wa.length : Nat) : Int)).toNat).map encB) rfl rfl Tryd.underlying24 elt5 hO hZ (one_map (fun _ => rfl)) (by omega) (by omega) (by have := hK.size; omega) (fun ao47 c48 w49 hk50 hO51 => ?_)
        have hO_was := hO
        replace hK := hK.later hk50 (fun i hi hS => by have := (own_lt hO i hS).1; omega)
        replace hB6 := hB6.grown hO (by decide) hk50
        replace hB12 := hB12.grown hO (by decide) hk50
        replace hR1 := hR1.kp hk50 (fun i _ hF hS => by have h1 : i < w.heap.size := hF; have h2 := (own_lt hO i hS).1; omega)
        replace hRw := hRw.kp hk50 (fun i _ hF hS => by have h1 : i < w.heap.size := hF; have h2 := (own_lt hO i hS).1; omega)
        replace hR0 := hR0.kp hk50 (fun i _ hF hS => by have h1 : F0 i ∧ i < w.heap.size := hF; have h2 := (own_lt hO i hS).1; omega)
        replace hn3 := hn3
        replace hZ := hZ.kp hk50 (fun i _ hF hS => by have h1 : i < w.heap.size := hF; have h2 := (own_lt hO i hS).1; omega)
        have hOn : w49.ownsRow w8.heap.size 5 1 (.slice ao47 (n3 + (wa.length - (min (max n 0) ((wa.length : Nat) : Int)).toNat)) c48) (n3 + (wa.length - (min (max n 0) ((wa.length : Nat) : Int)).toNat)) ((s0.take (max n 0).toNat ++ (wa.drop (min (max n 0) ((wa.length : Nat) : Int)).toNat)).flatMap encB) := by simpa [List.flatMap_def] using hO51
        have hO := hOn; clear hOn
        exact ⟨hk50.mono (fun k _ hk => (own_lt hO_was k hk).1), n3, ao3, c3, ao47, c48, rfl, hn3, hO⟩
      · refine oblS_post rfl rfl (fun w39k vs hE hkn => ?_)
        have hEs := hE.size
        replace hK := hK.later hE (fun i hi hS => by have h1 : w8.heap.size ≤ i := hS; have := hK.size; omega)
        replace hB6 := hB6.kp hE (by show ¬ (w8.heap.size ≤ b1); omega)
        replace hB12 := hB12.kp hE (by show ¬ (w8.heap.size ≤ b7); omega)
        replace hR1 := hR1.kp hE (fun i _ hF hS => by have h1 : i < w.heap.size := hF; have h2 : w8.heap.size ≤ i := hS; omega)
        replace hRw := hRw.kp hE (fun i _ hF hS => by have h1 : i < w.heap.size := hF; have h2 : w8.heap.size ≤ i := hS; omega)
        replace hR0 := hR0.kp hE (fun i _ hF hS => by have h1 : F0 i ∧ i < w.heap.size := hF; have h2 : w8.heap.size ≤ i := hS; omega)
        refine oblS_n rfl ?_
        refine opk_norm [(2, .pointer (some ⟨b1, 0, none⟩))] ⟨rfl, trivial⟩ (fun ρq => ?_)
        refine o_field rfl fa27_0 ?_
        exact ⟨Kp.refl _ _, rfl⟩
      replace hK := hK.later hE41 (fun i hi hS => by have h1 : w8.heap.size ≤ i := hS; have := hK.size; omega)
      replace hB6 := hB6.kp hE41 (by show ¬ (w8.heap.size ≤ b1); omega)
      replace hB12 := hB12.kp hE41 (by show ¬ (w8.heap.size ≤ b7); omega)
      replace hR1 := hR1.kp hE41 (fun i _ hF hS => by have h1 : i < w.heap.size := hF; have h2 : w8.heap.size ≤ i := hS; omega)
      replace hRw := hRw.kp hE41 (fun i _ hF hS => by have h1 : i < w.heap.size := hF; have h2 : w8.heap.size ≤ i := hS; omega)
      replace hR0 := hR0.kp hE41 (fun i _ hF hS => by have h1 : F0 i ∧ i < w.heap.size := hF; have h2 : w8.heap.size ≤ i := hS; omega)
      obtain ⟨-, ⟨n3, ao3, c3, ao33, c34, hv14, hn3, hO⟩, -, -, -, -, -, -, -, -, -, -, -, -, -, -, -⟩ := hkn42
      replace hO := own_mono (base' := w.heap.size) hO (by omega)
      refine rl_norm [(2, .pointer (some ⟨b1, 0, none⟩)), (4, .pointer (some ⟨b7, 0, none⟩)), (24, .int .i64 (0)), (37, .slice ao33 (n3 + (wa.length - (min (max n 0) ((wa.length : Nat) : Int)).toNat)) c34), (38, .pointer (some ⟨b1, 0, none⟩))] ⟨rfl, rfl, rfl, hv14, rfl, trivial⟩ (fun ρr38q => ?_)
      refine rl (o_idxArr (i := 0) rfl rfl Tryd.underlying25 Tryd.sizeOf24 (by omega) (by omega) ?_) rfl
      refine rl0 (o_store1 (v := .slice ao33 (n3 + (wa.length - (min (max n 0) ((wa.length : Nat) : Int)).toNat)) c34) rfl rfl hB6 tyS24 rfl (Nat.le_of_ble_eq_true rfl) (fun w52 hk53 hz54 hB55 => ?_)) rfl
      replace hB55 : Box w52 b1 [.slice ao33 (n3 + (wa.length - (min (max n 0) ((wa.length : Nat) : Int)).toNat)) c34, .slice a1 s1.length p1, .int .i64 (0), .slice aw wa.length pw, .bool (wr)] 27 := hB55
      replace hK := hK.later hk53 (fun i hi hS => by have h1 : i = b1 := hS; omega)
      replace hB12 := hB12.kp hk53 (by show ¬ b7 = b1; omega)
      replace hR1 := hR1.kp hk53 (fun i _ hF hS => by have h1 : i < w.heap.size := hF; have h2 : i = b1 := hS; omega)
      replace hRw := hRw.kp hk53 (fun i _ hF hS => by have h1 : i < w.heap.size := hF; have h2 : i = b1 := hS; omega)
      replace hR0 := hR0.kp hk53 (fun i _ hF hS => by have h1 : F0 i ∧ i < w.heap.size := hF; have h2 : i = b1 := hS; omega)
      replace hn3 := hn3
      replace hO := own_other hO hB6 (by decide) hk53
      replace hB6 := hB55
      refine rl_nil ?_
      refine cw_reg rfl ?_
      refine rl (o_loadBA (ds := [.slice ao33 (n3 + (wa.length - (min (max n 0) ((wa.length : Nat) : Int)).toNat)) c34, .slice a1 s1.length p1, .int .i64 (0), .slice aw wa.length pw, .bool (wr)]) rfl hB6 tyA27 rfl rfl ?_) rfl
      refine rl0 (o_storeA (vs := [.slice ao33 (n3 + (wa.length - (min (max n 0) ((wa.length : Nat) : Int)).toNat)) c34, .slice a1 s1.length p1, .int .i64 (0), .slice aw wa.length pw, .bool (wr)]) rfl rfl hB12 tyA27 rfl rfl (Nat.le_of_ble_eq_true rfl) (fun w56 hk57 hz58 hB59 => ?_)) rfl
      replace hB59 : Box w56 b7 [.slice ao33 (n3 + (wa.length - (min (max n 0) ((wa.length : Nat) : Int)).toNat)) c34, .slice a1 s1.length p1, .int .i64 (0), .slice aw wa.length pw, .bool (wr)] 27 := hB59
      replace hK := hK.later hk57 (fun i hi hS => by have h1 : i = b7 := hS; omega)
      replace hB6 := hB6.kp hk57 (by show ¬ b1 = b7; omega)
      replace hR1 := hR1.kp hk57 (fun i _ hF hS => by have h1 : i < w.heap.size := hF; have h2 : i = b7 := hS; omega)
      replace hRw := hRw.kp hk57 (fun i _ hF hS => by have h1 : i < w.heap.size := hF; have h2 : i = b7 := hS; omega)
      replace hR0 := hR0.kp hk57 (fun i _ hF hS => by have h1 : F0 i ∧ i < w.heap.size := hF; have h2 : i = b7 := hS; omega)
      replace hn3 := hn3
      replace hO := own_other hO hB12 (by decide) hk57
      replace hB12 := hB59
      refine rl_nil ?_
      refine cw_ret ?_
      refine ret_intro (v := .agg #[.slice ao33 (n3 + (wa.length - (min (max n 0) ((wa.length : Nat) : Int)).toNat)) c34, .slice a1 s1.length p1, .int .i64 (0), .slice aw wa.length pw, .bool (wr)]) (res_ok (vs := [.agg #[.slice ao33 (n3 + (wa.length - (min (max n 0) ((wa.length : Nat) : Int)).toNat)) c34, .slice a1 s1.length p1, .int .i64 (0), .slice aw wa.length pw, .bool (wr)]]) rfl ⟨⟨_, rfl, run_loadA tyA27 rfl (hB12.at_ 0 5)⟩, trivial⟩) hK ?_
      have hTB : (if wr = false ∨ (s0.length : Int) ≤ max n 0 then s0 else s0.take (max n 0).toNat ++ wa.drop (min (max n 0) (wa.length : Int)).toNat) = (s0.take (max n 0).toNat) ++ (wa.drop (min (max n 0) ((wa.length : Nat) : Int)).toNat) := if_neg (by rintro (h | h) <;> simp_all <;> omega)
      have hln : ((s0.take (max n 0).toNat) ++ (wa.drop (min (max n 0) ((wa.length : Nat) : Int)).toNat)).length = n3 + (wa.length - (min (max n 0) ((wa.length : Nat) : Int)).toNat) := by rw [hn3]; simp
      rw [hTB]
      refine ⟨ao33, c34, (by rw [hln]), ?_⟩
      rw [hln]
      exact (Rd.of_ownF hO (fun _ => rfl) hln.symm).mono (fun b _ h => .inr h)

set_option maxHeartbeats 8000000 in
theorem tear1_ok {F0 F1 Fw : Nat → Prop} (a0 a1 aw : Option Addr) (p0 p1 pw : Nat) (s0 s1 wa : List Int) (wr : Bool) (n : Int) (w : World) (hn0 : s0.length ≤ 1000000) (hn1 : s1.length ≤ 1000000) (hnw : wa.length ≤ 1000000) (hR0 : Rd F0 w 1 (.slice a0 s0.length p0) (s0.map encB)) (hR1i : Rd F1 w 1 (.slice a1 s1.length p1) (s1.map encB)) (hRw : Rd Fw w 1 (.slice aw wa.length pw) (wa.map encB)) :
    Calls Tryd.prog 16 #[.agg #[.slice a0 s0.length p0, .slice a1 s1.length p1, .int .i64 (1), .slice aw wa.length pw, .bool (wr)], .int .i64 (n)] w (Ret Non w fun v w' => ∃ (ao3 : Option Addr) (c3 : Nat), v = .agg #[.slice a0 s0.length p0, .slice ao3 ((if wr = false ∨ (s1.length : Int) ≤ max n 0 then s1 else s1.take (max n 0).toNat ++ wa.drop (min (max n 0) (wa.length : Int)).toNat).length) c3, .int .i64 (1), .slice aw wa.length pw, .bool (wr)] ∧ Rd (fun b => F1 b ∨ w.heap.size ≤ b) w' 1 (.slice ao3 ((if wr = false ∨ (s1.length : Int) ≤ max n 0 then s1 else s1.take (max n 0).toNat ++ wa.drop (min (max n 0) (wa.length : Int)).toNat).length) c3) ((if wr = false ∨ (s1.length : Int) ≤ max n 0 then s1 else s1.take (max n 0).toNat ++ wa.drop (min (max n 0) (wa.length : Int)).toNat).map encB)) := by
  have hK := Kp.refl Non w
  replace hR0 := hR0.old
  replace hRw := hRw.old
  have hR1 := hR1i.mono (G := fun b => F1 b ∧ b < w.heap.size) (fun b hb h => ⟨h, hb⟩)
  refine calls_cw Tryd.func16 rfl (Nat.le_of_ble_eq_true rfl) ?_
  refine cw_seq ?_
  refine cw_region rfl ?_
  refine rl (o_box (v := .agg #[.slice a0 s0.length p0, .slice a1 s1.length p1, .int .i64 (1), .slice aw wa.length pw, .bool (wr)]) rfl (fun b1 w2 hb3 hz4 hk5 hB6 => ?_)) rfl
  replace hB6 : Box w2 b1 [.slice a0 s0.length p0, .slice a1 s1.length p1, .int .i64 (1), .slice aw wa.length pw, .bool (wr)] 27 := hB6
  have hs_b1 := hK.size
  replace hK := hK.trans (Kp.ext hk5)
  replace hR0 := hR0.ext hk5
  replace hRw := hRw.ext hk5
  replace hR1 := hR1.ext hk5
  refine rl (o_alloc Tryd.zeroValue27 (fun b7 w8 hb9 hz10 hk11 hB12 => ?_)) rfl
  replace hB12 : Box w8 b7 [.slice none 0 0, .slice none 0 0, .int .i64 (0), .slice none 0 0, .bool (false)] 27 := hB12
  have hs_b7 := hK.size
  have hl_b1_b7 := hB6.lt
  replace hK := hK.trans (Kp.ext hk11)
  replace hB6 := hB6.ext hk11
  replace hR0 := hR0.ext hk11
  replace hRw := hRw.ext hk11
  replace hR1 := hR1.ext hk11
  refine rl_nil ?_
  refine k_tn ?_
  refine cw_norm [(1, .int .i64 (n)), (2, .pointer (some ⟨b1, 0, none⟩)), (4, .pointer (some ⟨b7, 0, none⟩))] ⟨rfl, rfl, rfl, trivial⟩ (fun ρn13 => ?_)
  refine cw_seq ?_
  refine cw_region rfl ?_
  refine rl (o_field rfl fa27_1 ?_) rfl
  refine rl (o_loadB (v := .int .i64 (1)) rfl hB6 tyS3 rfl ?_) rfl
  refine rl (o_field rfl fa27_0 ?_) rfl
  refine rl (o_idxArr (i := 1) rfl rfl Tryd.underlying25 Tryd.sizeOf24 (by omega) (by omega) ?_) rfl
  refine rl (o_loadB (v := .slice a1 s1.length p1) rfl hB6 tyS24 rfl ?_) rfl
  refine rl (o_assign (v := .slice a1 s1.length p1) rfl ?_) rfl
  refine rl_nil ?_
  refine k_tn ?_
  refine cw_norm [(1, .int .i64 (n)), (2, .pointer (some ⟨b1, 0, none⟩)), (4, .pointer (some ⟨b7, 0, none⟩)), (5, .slice a1 s1.length p1)] ⟨rfl, rfl, rfl, rfl, trivial⟩ (fun ρn14 => ?_)
  refine cw_seq ?_
  refine cw_region rfl ?_
  refine rl (o_move (v := .int .i64 (n)) rfl ?_) rfl
  refine rl (o_max rfl rfl ?_) rfl
  refine rl (o_assign (v := .int .i64 (max n 0)) rfl ?_) rfl
  refine rl_nil ?_
  refine k_tn ?_
  refine cw_norm [(1, .int .i64 (max n 0)), (2, .pointer (some ⟨b1, 0, none⟩)), (4, .pointer (some ⟨b7, 0, none⟩)), (5, .slice a1 s1.length p1)] ⟨rfl, rfl, rfl, rfl, trivial⟩ (fun ρn15 => ?_)
  refine cw_seq ?_
  refine cw_seq ?_
  refine cw_region rfl ?_
  refine rl (o_field rfl fa27_3 ?_) rfl
  refine rl (o_loadB (v := .bool (wr)) rfl hB6 tyS4 rfl ?_) rfl
  refine rl (o_not rfl ?_) rfl
  refine rl (o_move (v := .bool (!wr)) rfl ?_) rfl
  rcases Bool.eq_false_or_eq_true (!wr) with h16 | h16
  · skip
    refine rlo ?_ (want_f rfl (h16) (by decide))
    refine rlo ?_ (want_f rfl (h16) (by decide))
    refine rlo ?_ (want_f rfl (h16) (by decide))
    refine rlo ?_ (want_f rfl (h16) (by decide))
    refine rl (o_pickT (v := .bool (true)) rfl (h16) rfl ?_) rfl
    refine rl_nil ?_
    refine k_tn ?_
    refine cw_norm [(1, .int .i64 (max n 0)), (2, .pointer (some ⟨b1, 0, none⟩)), (4, .pointer (some ⟨b7, 0, none⟩)), (5, .slice a1 s1.length p1), (21, .bool (true))] ⟨rfl, rfl, rfl, rfl, rfl, trivial⟩ (fun ρn17 => ?_)
    refine cw_condT rfl ?_
    refine cw_reg rfl ?_
    refine rl (o_loadBA (ds := [.slice a0 s0.length p0, .slice a1 s1.length p1, .int .i64 (1), .slice aw wa.length pw, .bool (wr)]) rfl hB6 tyA27 rfl rfl ?_) rfl
    refine rl0 (o_storeA (vs := [.slice a0 s0.length p0, .slice a1 s1.length p1, .int .i64 (1), .slice aw wa.length pw, .bool (wr)]) rfl rfl hB12 tyA27 rfl rfl (Nat.le_of_ble_eq_true rfl) (fun w18 hk19 hz20 hB21 => ?_)) rfl
    replace hB21 : Box w18 b7 [.slice a0 s0.length p0, .slice a1 s1.length p1, .int .i64 (1), .slice aw wa.length pw, .bool (wr)] 27 := hB21
    replace hK := hK.later hk19 (fun i hi hS => by have h1 : i = b7 := hS; omega)
    replace hB6 := hB6.kp hk19 (by show ¬ b1 = b7; omega)
    replace hR0 := hR0.kp hk19 (fun i _ hF hS => by have h1 : i < w.heap.size := hF; have h2 : i = b7 := hS; omega)
    replace hRw := hRw.kp hk19 (fun i _ hF hS => by have h1 : i < w.heap.size := hF; have h2 : i = b7 := hS; omega)
    replace hR1 := hR1.kp hk19 (fun i _ hF hS => by have h1 : F1 i ∧ i < w.heap.size := hF; have h2 : i = b7 := hS; omega)
    replace hB12 := hB21
    refine rl_nil ?_
    refine cw_ret ?_
    refine k_tr ?_
    refine ret_intro (v := .agg #[.slice a0 s0.length p0, .slice a1 s1.length p1, .int .i64 (1), .slice aw wa.length pw, .bool (wr)]) (res_ok (vs := [.agg #[.slice a0 s0.length p0, .slice a1 s1.length p1, .int .i64 (1), .slice aw wa.length pw, .bool (wr)]]) rfl ⟨⟨_, rfl, run_loadA tyA27 rfl (hB12.at_ 0 5)⟩, trivial⟩) hK ?_
    exact ⟨a1, p1, by rw [if_pos (by simp_all)], by rw [if_pos (by simp_all)]; exact hR1.mono (fun b _ h => .inl h.1)⟩
  · skip
    refine rl (o_move (v := .int .i64 (max n 0)) rfl ?_) (want_t rfl (h16))
    refine rl (o_move (v := .slice a1 s1.length p1) rfl ?_) (want_t rfl (h16))
    refine rl (o_len rfl Tryd.underlying24 ?_) (want_t rfl (h16))
    refine rl (o_geq rfl rfl ?_) (want_t rfl (h16))
    refine rl (o_pickF (v := .bool (decide (((s1.length : Nat) : Int) ≤ max n 0))) rfl (h16) rfl ?_) rfl
    refine rl_nil ?_
    refine k_tn ?_
    refine cw_norm [(1, .int .i64 (max n 0)), (2, .pointer (some ⟨b1, 0, none⟩)), (4, .pointer (some ⟨b7, 0, none⟩)), (5, .slice a1 s1.length p1), (21, .bool (decide (((s1.length : Nat) : Int) ≤ max n 0)))] ⟨rfl, rfl, rfl, rfl, rfl, trivial⟩ (fun ρn22 => ?_)
    refine cw_if rfl (fun h23 => ?_) (fun h23 => ?_)
    · skip
      refine cw_reg rfl ?_
      refine rl (o_loadBA (ds := [.slice a0 s0.length p0, .slice a1 s1.length p1, .int .i64 (1), .slice aw wa.length pw, .bool (wr)]) rfl hB6 tyA27 rfl rfl ?_) rfl
      refine rl0 (o_storeA (vs := [.slice a0 s0.length p0, .slice a1 s1.length p1, .int .i64 (1), .slice aw wa.length pw, .bool (wr)]) rfl rfl hB12 tyA27 rfl rfl (Nat.le_of_ble_eq_true rfl) (fun w24 hk25 hz26 hB27 => ?_)) rfl
      replace hB27 : Box w24 b7 [.slice a0 s0.length p0, .slice a1 s1.length p1, .int .i64 (1), .slice aw wa.length pw, .bool (wr)] 27 := hB27
      replace hK := hK.later hk25 (fun i hi hS => by have h1 : i = b7 := hS; omega)
      replace hB6 := hB6.kp hk25 (by show ¬ b1 = b7; omega)
      replace hR0 := hR0.kp hk25 (fun i _ hF hS => by have h1 : i < w.heap.size := hF; have h2 : i = b7 := hS; omega)
      replace hRw := hRw.kp hk25 (fun i _ hF hS => by have h1 : i < w.heap.size := hF; have h2 : i = b7 := hS; omega)
      replace hR1 := hR1.kp hk25 (fun i _ hF hS => by have h1 : F1 i ∧ i < w.heap.size := hF; have h2 : i = b7 := hS; omega)
      replace hB12 := hB27
      refine rl_nil ?_
      refine cw_ret ?_
      refine k_tr ?_
      refine ret_intro (v := .agg #[.slice a0 s0.length p0, .slice a1 s1.length p1, .int .i64 (1), .slice aw wa.length pw, .bool (wr)]) (res_ok (vs := [.agg #[.slice a0 s0.length p0, .slice a1 s1.length p1, .int .i64 (1), .slice aw wa.length pw, .bool (wr)]]) rfl ⟨⟨_, rfl, run_loadA tyA27 rfl (hB12.at_ 0 5)⟩, trivial⟩) hK ?_
      exact ⟨a1, p1, by rw [if_pos (by simp_all)], by rw [if_pos (by simp_all)]; exact hR1.mono (fun b _ h => .inl h.1)⟩
    · skip
      refine cw_skip ?_
      refine k_tn ?_
      refine cw_norm [(1, .int .i64 (max n 0)), (2, .pointer (some ⟨b1, 0, none⟩)), (4, .pointer (some ⟨b7, 0, none⟩)), (5, .slice a1 s1.length p1)] ⟨rfl, rfl, rfl, rfl, trivial⟩ (fun ρn28 => ?_)
      have hl_b1_d2 := hB6.lt
      have hl_b7_d2 := hB12.lt
      refine cw_norm [(1, .int .i64 (max n 0)), (2, .pointer (some ⟨b1, 0, none⟩)), (4, .pointer (some ⟨b7, 0, none⟩)), (5, .slice a1 s1.length p1)] ⟨rfl, rfl, rfl, rfl, trivial⟩ (fun ρr38 => ?_)
      have hsr := hK.size
      refine cw_drawnS (fun k => w8.heap.size ≤ k) 14 [.val (.pointer (some ⟨b1, 2, none⟩)), .val (.int .i64 (1)), .val (.slice a1 s1.length p1), .val (.int .i64 (max n 0)), .fact (fun v w' => ∃ (aoq : Option Addr) (cq : Nat), v = .slice aoq ((max n 0).toNat) cq ∧ (Rd (fun b => F1 b ∧ b < w.heap.size) w' 1 (.slice aoq ((max n 0).toNat) cq) ((s1.take (max n 0).toNat).map encB))), .fact (fun v w' => ∃ (n3 : Nat) (ao3 : Option Addr) (c3 : Nat), v = .slice ao3 n3 c3 ∧ (n3 = min (max n 0).toNat s1.length)), .val (.pointer (some ⟨b1, 3, none⟩)), .val (.slice aw wa.length pw), .val (.int .i64 (max n 0)), .val (.pointer (some ⟨b1, 3, none⟩)), .val (.slice aw wa.length pw), .val (.int .i64 (((wa.length : Nat) : Int))), .val (.int .i64 (min (max n 0) ((wa.length : Nat) : Int))), .fact (fun v w' => ∃ (aoz : Option Addr) (cz : Nat), v = .slice aoz (wa.length - (min (max n 0) ((wa.length : Nat) : Int)).toNat) cz ∧ (Rd (fun b => b < w.heap.size) w' 1 (.slice aoz (wa.length - (min (max n 0) ((wa.length : Nat) : Int)).toNat) cz) ((wa.drop (min (max n 0) ((wa.length : Nat) : Int)).toNat).map encB))), .fact (fun v w' => ∃ (n3 : Nat) (ao3 : Option Addr) (c3 : Nat) (ao33 : Option Addr) (c34 : Nat), v = .slice ao33 (n3 + (wa.length - (min (max n 0) ((wa.length : Nat) : Int)).toNat)) c34 ∧ (n3 = min (max n 0).toNat s1.length) ∧ (w'.ownsRow w8.heap.size 5 1 (.slice ao33 (n3 + (wa.length - (min (max n 0) ((wa.length : Nat) : Int)).toNat)) c34) (n3 + (wa.length - (min (max n 0) ((wa.length : Nat) : Int)).toNat)) ((s1.take (max n 0).toNat ++ (wa.drop (min (max n 0) ((wa.length : Nat) : Int)).toNat)).flatMap encB))), .val (.pointer (some ⟨b1, 0, none⟩))] [.val (.pointer (some ⟨b1, 2, none⟩)), .val (.int .i64 (1)), .val (.slice a1 s1.length p1), .val (.int .i64 (max n 0)), .fact (fun v w' => ∃ (aoq : Option Addr) (cq : Nat), v = .slice aoq ((max n 0).toNat) cq ∧ (Rd (fun b => F1 b ∧ b < w.heap.size) w' 1 (.slice aoq ((max n 0).toNat) cq) ((s1.take (max n 0).toNat).map encB))), .fact (fun v w' => ∃ (n3 : Nat) (ao3 : Option Addr) (c3 : Nat), v = .slice ao3 n3 c3 ∧ (w'.ownsRow w8.heap.size 5 1 (.slice ao3 n3 c3) n3 ((s1.take (max n 0).toNat).flatMap encB)) ∧ (n3 = min (max n 0).toNat s1.length)), .val (.pointer (some ⟨b1, 3, none⟩)), .val (.slice aw wa.length pw), .val (.int .i64 (max n 0)), .val (.pointer (some ⟨b1, 3, none⟩)), .val (.slice aw wa.length pw), .val (.int .i64 (((wa.length : Nat) : Int))), .val (.int .i64 (min (max n 0) ((wa.length : Nat) : Int))), .fact (fun v w' => ∃ (aoz : Option Addr) (cz : Nat), v = .slice aoz (wa.length - (min (max n 0) ((wa.length : Nat) : Int)).toNat) cz ∧ (Rd (fun b => b < w.heap.size) w' 1 (.slice aoz (wa.length - (min (max n 0) ((wa.length : Nat) : Int)).toNat) cz) ((wa.drop (min (max n 0) ((wa.length : Nat) : Int)).toNat).map encB))), .fact (fun v w' => ∃ (n3 : Nat) (ao3 : Option Addr) (c3 : Nat) (ao33 : Option Addr) (c34 : Nat), v = .slice ao33 (n3 + (wa.length - (min (max n 0) ((wa.length : Nat) : Int)).toNat)) c34 ∧ (n3 = min (max n 0).toNat s1.length) ∧ (w'.ownsRow w8.heap.size 5 1 (.slice ao33 (n3 + (wa.length - (min (max n 0) ((wa.length : Nat) : Int)).toNat)) c34) (n3 + (wa.length - (min (max n 0) ((wa.length : Nat) : Int)).toNat)) ((s1.take (max n 0).toNat ++ (wa.drop (min (max n 0) ((wa.length : Nat) : Int)).toNat)).flatMap encB))), .val (.pointer (some ⟨b1, 0, none⟩))] [[], [0], [], [], [2, 3], [2, 3, 4], [], [6], [], [], [9], [9, 10], [8, 9, 10, 11], [6, 7, 8, 9, 10, 11, 12], [2, 3, 4, 5, 6, 7, 8, 9, 10, 11, 12, 13], [], [0, 1, 2, 3, 4, 5, 6, 7, 8, 9, 10, 11, 12, 13, 14, 15], [0, 1, 2, 3, 4, 5, 6, 7, 8, 9, 10, 11, 12, 13, 14, 15, 16]] 16 mixed (by kernel_rfl) ⟨upS_no rfl rfl trivial, upS_no rfl rfl trivial, upS_pre rfl rfl trivial trivial (fun _ _ h => h), upS_pre rfl rfl trivial trivial (fun _ _ h => h), upS_pre rfl rfl (fun vq wq wq' ⟨aoq, cq, hv, hQ⟩ hk => ⟨aoq, cq, hv, hQ.ext hk⟩) (fun vq wq wq' ⟨aoq, cq, hv, hQ⟩ hk => ⟨aoq, cq, hv, hQ.kp hk (fun i _ hF hS => by have h1 : F1 i ∧ i < w.heap.size := hF; have h2 : w8.heap.size ≤ i := hS; omega)⟩) (fun vq wq ⟨aoq, cq, hv, hQ⟩ => ⟨aoq, cq, hv, hQ⟩), upS_pre rfl rfl (fun vq wq wq' ⟨n3, ao3, c3, hv, hO, hn3⟩ hk => ⟨n3, ao3, c3, hv, own_kp hO hk (fun _ _ _ x => x), hn3⟩) (fun vq wq wq' ⟨n3, ao3, c3, hv, hn3⟩ hk => ⟨n3, ao3, c3, hv, hn3⟩) (fun vq wq ⟨n3, ao3, c3, hv, hO, hn3⟩ => ⟨n3, ao3, c3, hv, hn3⟩), upS_pre rfl rfl trivial trivial (fun _ _ h => h), upS_pre rfl rfl trivial trivial (fun _ _ h => h), upS_pre rfl rfl trivial trivial (fun _ _ h => h), upS_pre rfl rfl trivial trivial (fun _ _ h => h), upS_pre rfl rfl trivial trivial (fun _ _ h => h), upS_pre rfl rfl trivial trivial (fun _ _ h => h), upS_pre rfl rfl trivial trivial (fun _ _ h => h), upS_pre rfl rfl (fun vq wq wq' ⟨aoz, cz, hv, hZ⟩ hk => ⟨aoz, cz, hv, hZ.ext hk⟩) (fun vq wq wq' ⟨aoz, cz, hv, hZ⟩ hk => ⟨aoz, cz, hv, hZ.kp hk (fun i _ hF hS => by have h1 : i < w.heap.size := hF; have h2 : w8.heap.size ≤ i := hS; omega)⟩) (fun vq wq ⟨aoz, cz, hv, hZ⟩ => ⟨aoz, cz, hv, hZ⟩), upS_one rfl (fun vq wq wq' ⟨n3, ao3, c3, ao33, c34, hv, hn3, hO⟩ hk => ⟨n3, ao3, c3, ao33, c34, hv, hn3, own_kp hO hk (fun _ _ _ x => x)⟩), upS_no rfl rfl trivial, trivial⟩ ⟨⟨⟨⟨⟨⟨⟨⟨⟨⟨⟨⟨⟨⟨⟨⟨trivial, ?_⟩, ?_⟩, ?_⟩, ?_⟩, ?_⟩, ?_⟩, ?_⟩, ?_⟩, ?_⟩, ?_⟩, ?_⟩, ?_⟩, ?_⟩, ?_⟩, ?_⟩, ?_⟩ (fun w39 vs40 hE41 hkn42 => ?_)
      · refine oblS_post rfl rfl (fun w39k vs hE hkn => ?_)
        have hEs := hE.size
        replace hK := hK.later hE (fun i hi hS => by have h1 : w8.heap.size ≤ i := hS; have := hK.size; omega)
        replace hB6 := hB6.kp hE (by show ¬ (w8.heap.size ≤ b1); omega)
        replace hB12 := hB12.kp hE (by show ¬ (w8.heap.size ≤ b7); omega)
        replace hR0 := hR0.kp hE (fun i _ hF hS => by have h1 : i < w.heap.size := hF; have h2 : w8.heap.size ≤ i := hS; omega)
        replace hRw := hRw.kp hE (fun i _ hF hS => by have h1 : i < w.heap.size := hF; have h2 : w8.heap.size ≤ i := hS; omega)
        replace hR1 := hR1.kp hE (fun i _ hF hS => by have h1 : F1 i ∧ i < w.heap.size := hF; have h2 : w8.heap.size ≤ i := hS; omega)
        refine oblS_n rfl ?_
        refine opk_norm [(2, .pointer (some ⟨b1, 0, none⟩))] ⟨rfl, trivial⟩ (fun ρq => ?_)
        refine o_field rfl fa27_1 ?_
        exact ⟨Kp.refl _ _, rfl⟩
      · refine oblS_post rfl rfl (fun w39k vs hE hkn => ?_)
        have hEs := hE.size
        replace hK := hK.later hE (fun i hi hS => by have h1 : w8.heap.size ≤ i := hS; have := hK.size; omega)
        replace hB6 := hB6.kp hE (by show ¬ (w8.heap.size ≤ b1); omega)
        replace hB12 := hB12.kp hE (by show ¬ (w8.heap.size ≤ b7); omega)
        replace hR0 := hR0.kp hE (fun i _ hF hS => by have h1 : i < w.heap.size := hF; have h2 : w8.heap.size ≤ i := hS; omega)
        replace hRw := hRw.kp hE (fun i _ hF hS => by have h1 : i < w.heap.size := hF; have h2 : w8.heap.size ≤ i := hS; omega)
        replace hR1 := hR1.kp hE (fun i _ hF hS => by have h1 : F1 i ∧ i < w.heap.size := hF; have h2 : w8.heap.size ≤ i := hS; omega)
        refine oblS_n rfl ?_
        refine opk_norm [(23, .pointer (some ⟨b1, 2, none⟩))] ⟨rfl, trivial⟩ (fun ρq => ?_)
        refine o_loadB (v := .int .i64 (1)) rfl hB6 tyS3 rfl ?_
        exact ⟨Kp.refl _ _, rfl⟩
      · refine oblS_pre rfl rfl (fun w39k vs hE hkn => ?_)
        have hEs := hE.size
        replace hK := hK.trans (Kp.ext hE)
        replace hB6 := hB6.ext hE
        replace hB12 := hB12.ext hE
        replace hR0 := hR0.ext hE
        replace hRw := hRw.ext hE
        replace hR1 := hR1.ext hE
        refine oblS_p rfl rfl ?_
        refine opk_norm [(5, .slice a1 s1.length p1)] ⟨rfl, trivial⟩ (fun ρq => ?_)
        refine o_move (v := .slice a1 s1.length p1) rfl ?_
        exact ⟨Kp.refl _ _, rfl⟩
      · refine oblS_pre rfl rfl (fun w39k vs hE hkn => ?_)
        have hEs := hE.size
        replace hK := hK.trans (Kp.ext hE)
        replace hB6 := hB6.ext hE
        replace hB12 := hB12.ext hE
        replace hR0 := hR0.ext hE
        replace hRw := hRw.ext hE
        replace hR1 := hR1.ext hE
        refine oblS_p rfl rfl ?_
        refine opk_norm [(1, .int .i64 (max n 0))] ⟨rfl, trivial⟩ (fun ρq => ?_)
        refine o_move (v := .int .i64 (max n 0)) rfl ?_
        exact ⟨Kp.refl _ _, rfl⟩
      · refine oblS_pre rfl rfl (fun w39k vs hE hkn => ?_)
        have hEs := hE.size
        replace hK := hK.trans (Kp.ext hE)
        replace hB6 := hB6.ext hE
        replace hB12 := hB12.ext hE
        replace hR0 := hR0.ext hE
        replace hRw := hRw.ext hE
        replace hR1 := hR1.ext hE
        refine oblS_p rfl rfl ?_
        refine opk_norm [(25, .slice a1 s1.length p1), (26, .int .i64 (max n 0))] ⟨rfl, rfl, trivial⟩ (fun ρq => ?_)
        refine o_sliceTo (i := max n 0) rfl rfl Tryd.underlying24 Tryd.sizeOf5 hR1 (by omega) (by simp only [List.length_map]; omega) (fun aoq cq hQ => ?_)
        replace hQ : Rd (fun b => F1 b ∧ b < w.heap.size) w39k 1 (.slice aoq ((max n 0).toNat) cq) ((s1.take (max n 0).toNat).map encB) := by first | exact hQ | (simp only [← List.map_drop, ← List.map_take] at hQ; exact hQ)
        exact ⟨Kp.refl _ _, aoq, cq, rfl, hQ⟩
      · refine oblS_pre rfl rfl (fun w39k vs hE hkn => ?_)
        have hEs := hE.size
        replace hK := hK.trans (Kp.ext hE)
        replace hB6 := hB6.ext hE
        replace hB12 := hB12.ext hE
        replace hR0 := hR0.ext hE
        replace hRw := hRw.ext hE
        replace hR1 := hR1.ext hE
        obtain ⟨-, -, ⟨aoq, cq, hv4, hQ⟩, -⟩ := hkn
        refine oblS_p rfl rfl ?_
        refine opk_norm [(27, .slice aoq ((max n 0).toNat) cq)] ⟨hv4, trivial⟩ (fun ρq => ?_)
        refine o_call (clone_ok _ _ (s1.take (max n 0).toNat) _ _ (by simp; omega) (by simp; omega) hQ) Tryd.call22 (fun v43 w44 hk45 hv46 => ?_)
        have hl_b1_w44 := hB6.lt
        have hl_b7_w44 := hB12.lt
        have hs_w44 := hK.size
        obtain ⟨n3, ao3, c3, rfl, hn3, hO3⟩ := hv46
        replace hK := hK.trans (Kp.ext hk45)
        replace hB6 := hB6.ext hk45
        replace hB12 := hB12.ext hk45
        replace hR0 := hR0.ext hk45
        replace hRw := hRw.ext hk45
        replace hR1 := hR1.ext hk45
        replace hQ := hQ.ext hk45
        have hO := own_mono (base' := w8.heap.size) hO3 (by omega)
        clear hO3
        rw [List.length_take] at hn3
        exact ⟨hk45, n3, ao3, c3, rfl, hO, hn3⟩
      · refine oblS_pre rfl rfl (fun w39k vs hE hkn => ?_)
        have hEs := hE.size
        replace hK := hK.trans (Kp.ext hE)
        replace hB6 := hB6.ext hE
        replace hB12 := hB12.ext hE
        replace hR0 := hR0.ext hE
        replace hRw := hRw.ext hE
        replace hR1 := hR1.ext hE
        refine oblS_p rfl rfl ?_
        refine opk_norm [(2, .pointer (some ⟨b1, 0, none⟩))] ⟨rfl, trivial⟩ (fun ρq => ?_)
        refine o_field rfl fa27_2 ?_
        exact ⟨Kp.refl _ _, rfl⟩
      · refine oblS_pre rfl rfl (fun w39k vs hE hkn => ?_)
        have hEs := hE.size
        replace hK := hK.trans (Kp.ext hE)
        replace hB6 := hB6.ext hE
        replace hB12 := hB12.ext hE
        replace hR0 := hR0.ext hE
        replace hRw := hRw.ext hE
        replace hR1 := hR1.ext hE
        refine oblS_p rfl rfl ?_
        refine opk_norm [(29, .pointer (some ⟨b1, 3, none⟩))] ⟨rfl, trivial⟩ (fun ρq => ?_)
        refine o_loadB (v := .slice aw wa.length pw) rfl hB6 tyS24 rfl ?_
        exact ⟨Kp.refl _ _, rfl⟩
      · refine oblS_pre rfl rfl (fun w39k vs hE hkn => ?_)
        have hEs := hE.size
        replace hK := hK.trans (Kp.ext hE)
        replace hB6 := hB6.ext hE
        replace hB12 := hB12.ext hE
        replace hR0 := hR0.ext hE
        replace hRw := hRw.ext hE
        replace hR1 := hR1.ext hE
        refine oblS_p rfl rfl ?_
        refine opk_norm [(1, .int .i64 (max n 0))] ⟨rfl, trivial⟩ (fun ρq => ?_)
        refine o_move (v := .int .i64 (max n 0)) rfl ?_
        exact ⟨Kp.refl _ _, rfl⟩
      · refine oblS_pre rfl rfl (fun w39k vs hE hkn => ?_)
        have hEs := hE.size
        replace hK := hK.trans (Kp.ext hE)
        replace hB6 := hB6.ext hE
        replace hB12 := hB12.ext hE
        replace hR0 := hR0.ext hE
        replace hRw := hRw.ext hE
        replace hR1 := hR1.ext hE
        refine oblS_p rfl rfl ?_
        refine opk_norm [(2, .pointer (some ⟨b1, 0, none⟩))] ⟨rfl, trivial⟩ (fun ρq => ?_)
        refine o_field rfl fa27_2 ?_
        exact ⟨Kp.refl _ _, rfl⟩
      · refine oblS_pre rfl rfl (fun w39k vs hE hkn => ?_)
        have hEs := hE.size
        replace hK := hK.trans (Kp.ext hE)
        replace hB6 := hB6.ext hE
        replace hB12 := hB12.ext hE
        replace hR0 := hR0.ext hE
        replace hRw := hRw.ext hE
        replace hR1 := hR1.ext hE
        refine oblS_p rfl rfl ?_
        refine opk_norm [(32, .pointer (some ⟨b1, 3, none⟩))] ⟨rfl, trivial⟩ (fun ρq => ?_)
        refine o_loadB (v := .slice aw wa.length pw) rfl hB6 tyS24 rfl ?_
        exact ⟨Kp.refl _ _, rfl⟩
      · refine oblS_pre rfl rfl (fun w39k vs hE hkn => ?_)
        have hEs := hE.size
        replace hK := hK.trans (Kp.ext hE)
        replace hB6 := hB6.ext hE
        replace hB12 := hB12.ext hE
        replace hR0 := hR0.ext hE
        replace hRw := hRw.ext hE
        replace hR1 := hR1.ext hE
        refine oblS_p rfl rfl ?_
        refine opk_norm [(33, .slice aw wa.length pw)] ⟨rfl, trivial⟩ (fun ρq => ?_)
        refine o_len rfl Tryd.underlying24 ?_
        exact ⟨Kp.refl _ _, rfl⟩
      · refine oblS_pre rfl rfl (fun w39k vs hE hkn => ?_)
        have hEs := hE.size
        replace hK := hK.trans (Kp.ext hE)
        replace hB6 := hB6.ext hE
        replace hB12 := hB12.ext hE
        replace hR0 := hR0.ext hE
        replace hRw := hRw.ext hE
        replace hR1 := hR1.ext hE
        refine oblS_p rfl rfl ?_
        refine opk_norm [(31, .int .i64 (max n 0)), (34, .int .i64 (((wa.length : Nat) : Int)))] ⟨rfl, rfl, trivial⟩ (fun ρq => ?_)
        refine o_min rfl rfl ?_
        exact ⟨Kp.refl _ _, rfl⟩
      · refine oblS_pre rfl rfl (fun w39k vs hE hkn => ?_)
        have hEs := hE.size
        replace hK := hK.trans (Kp.ext hE)
        replace hB6 := hB6.ext hE
        replace hB12 := hB12.ext hE
        replace hR0 := hR0.ext hE
        replace hRw := hRw.ext hE
        replace hR1 := hR1.ext hE
        refine oblS_p rfl rfl ?_
        refine opk_norm [(30, .slice aw wa.length pw), (35, .int .i64 (min (max n 0) ((wa.length : Nat) : Int)))] ⟨rfl, rfl, trivial⟩ (fun ρq => ?_)
        refine o_sliceFrom (i := min (max n 0) ((wa.length : Nat) : Int)) rfl rfl Tryd.underlying24 Tryd.sizeOf5 hRw (by omega) (by simp only [List.length_map]; omega) (fun aoz cz hZ => ?_)
        replace hZ : Rd (fun b => b < w.heap.size) w39k 1 (.slice aoz (wa.length - (min (max n 0) ((wa.length : Nat) : Int)).toNat) cz) ((wa.drop (min (max n 0) ((wa.length : Nat) : Int)).toNat).map encB) := by first | exact hZ | (simp only [← List.map_drop, ← List.map_take] at hZ; exact hZ)
        exact ⟨Kp.refl _ _, aoz, cz, rfl, hZ⟩
      · refine oblS_pre rfl rfl (fun w39k vs hE hkn => ?_)
        have hEs := hE.size
        replace hK := hK.trans (Kp.ext hE)
        replace hB6 := hB6.ext hE
        replace hB12 := hB12.ext hE
        replace hR0 := hR0.ext hE
        replace hRw := hRw.ext hE
        replace hR1 := hR1.ext hE
        obtain ⟨-, -, -, ⟨n3, ao3, c3, hv5, hO, hn3⟩, -, -, -, -, -, -, -, ⟨aoz, cz, hv13, hZ⟩, -⟩ := hkn
        refine oblS_s rfl ?_
        refine opk_norm [(28, .slice ao3 n3 c3), (36, .slice aoz (wa.length - (min (max n 0) ((wa.length : Nat) : Int)).toNat) cz)] ⟨hv5, hv13, trivial⟩ (fun ρq => ?_)
        refine o_appendR (css := (wa.drop (min (max n 0) ((wa.length : Nat) : Int)).toNat).map encB) rfl rfl Tryd.underlying24 elt5 hO hZ (one_map (fun _ => rfl)) (by omega) (by omega) (by have := hK.size; omega) (fun ao47 c48 w49 hk50 hO51 => ?_)
        have hO_was := hO
        replace hK := hK.later hk50 (fun i hi hS => by have := (own_lt hO i hS).1; omega)
        replace hB6 := hB6.grown hO (by decide) hk50
        replace hB12 := hB12.grown hO (by decide) hk50
        replace hR0 := hR0.kp hk50 (fun i _ hF hS => by have h1 : i < w.heap.size := hF; have h2 := (own_lt hO i hS).1; omega)
        replace hRw := hRw.kp hk50 (fun i _ hF hS => by have h1 : i < w.heap.size := hF; have h2 := (own_lt hO i hS).1; omega)
        replace hR1 := hR1.kp hk50 (fun i _ hF hS => by have h1 : F1 i ∧ i < w.heap.size := hF; have h2 := (own_lt hO i hS).1; omega)
        replace hn3 := hn3
        replace hZ := hZ.kp hk50 (fun i _ hF hS => by have h1 : i < w.heap.size := hF; have h2 := (own_lt hO i hS).1; omega)
        have hOn : w49.ownsRow w8.heap.size 5 1 (.slice ao47 (n3 + (wa.length - (min (max n 0) ((wa.length : Nat) : Int)).toNat)) c48) (n3 + (wa.length - (min (max n 0) ((wa.length : Nat) : Int)).toNat)) ((s1.take (max n 0).toNat ++ (wa.drop (min (max n 0) ((wa.length : Nat) : Int)).toNat)).flatMap encB) := by simpa [List.flatMap_def] using hO51
        have hO := hOn; clear hOn
        exact ⟨hk50.mono (fun k _ hk => (own_lt hO_was k hk).1), n3, ao3, c3, ao47, c48, rfl, hn3, hO⟩
      · refine oblS_post rfl rfl (fun w39k vs hE hkn => ?_)
        have hEs := hE.size
        replace hK := hK.later hE (fun i hi hS => by have h1 : w8.heap.size ≤ i := hS; have := hK.size; omega)
        replace hB6 := hB6.kp hE (by show ¬ (w8.heap.size ≤ b1); omega)
        replace hB12 := hB12.kp hE (by show ¬ (w8.heap.size ≤ b7); omega)
        replace hR0 := hR0.kp hE (fun i _ hF hS => by have h1 : i < w.heap.size := hF; have h2 : w8.heap.size ≤ i := hS; omega)
        replace hRw := hRw.kp hE (fun i _ hF hS => by have h1 : i < w.heap.size := hF; have h2 : w8.heap.size ≤ i := hS; omega)
        replace hR1 := hR1.kp hE (fun i _ hF hS => by have h1 : F1 i ∧ i < w.heap.size := hF; have h2 : w8.heap.size ≤ i := hS; omega)
        refine oblS_n rfl ?_
        refine opk_norm [(2, .pointer (some ⟨b1, 0, none⟩))] ⟨rfl, trivial⟩ (fun ρq => ?_)
        refine o_field rfl fa27_0 ?_
        exact ⟨Kp.refl _ _, rfl⟩
      replace hK := hK.later hE41 (fun i hi hS => by have h1 : w8.heap.size ≤ i := hS; have := hK.size; omega)
      replace hB6 := hB6.kp hE41 (by show ¬ (w8.heap.size ≤ b1); omega)
      replace hB12 := hB12.kp hE41 (by show ¬ (w8.heap.size ≤ b7); omega)
      replace hR0 := hR0.kp hE41 (fun i _ hF hS => by have h1 : i < w.heap.size := hF; have h2 : w8.heap.size ≤ i := hS; omega)
      replace hRw := hRw.kp hE41 (fun i _ hF hS => by have h1 : i < w.heap.size := hF; have h2 : w8.heap.size ≤ i := hS; omega)
      replace hR1 := hR1.kp hE41 (fun i _ hF hS => by have h1 : F1 i ∧ i < w.heap.size := hF; have h2 : w8.heap.size ≤ i := hS; omega)
      obtain ⟨-, ⟨n3, ao3, c3, ao33, c34, hv14, hn3, hO⟩, -, -, -, -, -, -, -, -, -, -, -, -, -, -, -⟩ := hkn42
      replace hO := own_mono (base' := w.heap.size) hO (by omega)
      refine rl_norm [(2, .pointer (some ⟨b1, 0, none⟩)), (4, .pointer (some ⟨b7, 0, none⟩)), (24, .int .i64 (1)), (37, .slice ao33 (n3 + (wa.length - (min (max n 0) ((wa.length : Nat) : Int)).toNat)) c34), (38, .pointer (some ⟨b1, 0, none⟩))] ⟨rfl, rfl, rfl, hv14, rfl, trivial⟩ (fun ρr38q => ?_)
      refine rl (o_idxArr (i := 1) rfl rfl Tryd.underlying25 Tryd.sizeOf24 (by omega) (by omega) ?_) rfl
      refine rl0 (o_store1 (v := .slice ao33 (n3 + (wa.length - (min (max n 0) ((wa.length : Nat) : Int)).toNat)) c34) rfl rfl hB6 tyS24 rfl (Nat.le_of_ble_eq_true rfl) (fun w52 hk53 hz54 hB55 => ?_)) rfl
      replace hB55 : Box w52 b1 [.slice a0 s0.length p0, .slice ao33 (n3 + (wa.length - (min (max n 0) ((wa.length : Nat) : Int)).toNat)) c34, .int .i64 (1), .slice aw wa.length pw, .bool (wr)] 27 := hB55
      replace hK := hK.later hk53 (fun i hi hS => by have h1 : i = b1 := hS; omega)
      replace hB12 := hB12.kp hk53 (by show ¬ b7 = b1; omega)
      replace hR0 := hR0.kp hk53 (fun i _ hF hS => by have h1 : i < w.heap.size := hF; have h2 : i = b1 := hS; omega)
      replace hRw := hRw.kp hk53 (fun i _ hF hS => by have h1 : i < w.heap.size := hF; have h2 : i = b1 := hS; omega)
      replace hR1 := hR1.kp hk53 (fun i _ hF hS => by have h1 : F1 i ∧ i < w.heap.size := hF; have h2 : i = b1 := hS; omega)
      replace hn3 := hn3
      replace hO := own_other hO hB6 (by decide) hk53
      replace hB6 := hB55
      refine rl_nil ?_
      refine cw_reg rfl ?_
      refine rl (o_loadBA (ds := [.slice a0 s0.length p0, .slice ao33 (n3 + (wa.length - (min (max n 0) ((wa.length : Nat) : Int)).toNat)) c34, .int .i64 (1), .slice aw wa.length pw, .bool (wr)]) rfl hB6 tyA27 rfl rfl ?_) rfl
      refine rl0 (o_storeA (vs := [.slice a0 s0.length p0, .slice ao33 (n3 + (wa.length - (min (max n 0) ((wa.length : Nat) : Int)).toNat)) c34, .int .i64 (1), .slice aw wa.length pw, .bool (wr)]) rfl rfl hB12 tyA27 rfl rfl (Nat.le_of_ble_eq_true rfl) (fun w56 hk57 hz58 hB59 => ?_)) rfl
      replace hB59 : Box w56 b7 [.slice a0 s0.length p0, .slice ao33 (n3 + (wa.length - (min (max n 0) ((wa.length : Nat) : Int)).toNat)) c34, .int .i64 (1), .slice aw wa.length pw, .bool (wr)] 27 := hB59
      replace hK := hK.later hk57 (fun i hi hS => by have h1 : i = b7 := hS; omega)
      replace hB6 := hB6.kp hk57 (by show ¬ b1 = b7; omega)
      replace hR0 := hR0.kp hk57 (fun i _ hF hS => by have h1 : i < w.heap.size := hF; have h2 : i = b7 := hS; omega)
      replace hRw := hRw.kp hk57 (fun i _ hF hS => by have h1 : i < w.heap.size := hF; have h2 : i = b7 := hS; omega)
      replace hR1 := hR1.kp hk57 (fun i _ hF hS => by have h1 : F1 i ∧ i < w.heap.size := hF; have h2 : i = b7 := hS; omega)
      replace hn3 := hn3
      replace hO := own_other hO hB12 (by decide) hk57
      replace hB12 := hB59
      refine rl_nil ?_
      refine cw_ret ?_
      refine ret_intro (v := .agg #[.slice a0 s0.length p0, .slice ao33 (n3 + (wa.length - (min (max n 0) ((wa.length : Nat) : Int)).toNat)) c34, .int .i64 (1), .slice aw wa.length pw, .bool (wr)]) (res_ok (vs := [.agg #[.slice a0 s0.length p0, .slice ao33 (n3 + (wa.length - (min (max n 0) ((wa.length : Nat) : Int)).toNat)) c34, .int .i64 (1), .slice aw wa.length pw, .bool (wr)]]) rfl ⟨⟨_, rfl, run_loadA tyA27 rfl (hB12.at_ 0 5)⟩, trivial⟩) hK ?_
      have hTB : (if wr = false ∨ (s1.length : Int) ≤ max n 0 then s1 else s1.take (max n 0).toNat ++ wa.drop (min (max n 0) (wa.length : Int)).toNat) = (s1.take (max n 0).toNat) ++ (wa.drop (min (max n 0) ((wa.length : Nat) : Int)).toNat) := if_neg (by rintro (h | h) <;> simp_all <;> omega)
      have hln : ((s1.take (max n 0).toNat) ++ (wa.drop (min (max n 0) ((wa.length : Nat) : Int)).toNat)).length = n3 + (wa.length - (min (max n 0) ((wa.length : Nat) : Int)).toNat) := by rw [hn3]; simp
      rw [hTB]
      refine ⟨ao33, c34, (by rw [hln]), ?_⟩
      rw [hln]
      exact (Rd.of_ownF hO (fun _ => rfl) hln.symm).mono (fun b _ h => .inr h)
end Go.Proofs.YtcmlklnelipacaaDoor

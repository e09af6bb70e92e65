import Derived.Test.YtcmlklnelipacaaDoorCrc
import Derived.Test.YtcmlklnelipacaaDoorLogG
set_option linter.unusedVariables false
set_option linter.unusedSimpArgs false
set_option maxRecDepth 100000
namespace Go.Proofs.YtcmlklnelipacaaDoor
open Go.RowKit Plain
theorem tyS83 : TyS Tryd.prog 83 := ⟨Tryd.isAgg83, Tryd.sizeOf83⟩
theorem chunks_step {n k : Nat} {xs : List Int} (h : xs ≠ []) : chunks n (k + 1) xs = xs.take n :: chunks n k (xs.drop n) := by
  cases xs with
  | nil => exact absurd rfl h
  | cons x r => rfl
theorem chunks_nil {n k : Nat} : chunks n k [] = [] := by cases k <;> rfl
abbrev ChunkB (S : Nat → Prop) (w0 : World) (sz : Nat) (xs : List Int) : Type := {r : Row // r.xs.length ≤ sz ∧ r.xs ≠ [] ∧ (∀ z ∈ r.xs, z ∈ xs) ∧ (r.xs.length = sz ∨ ¬ sz ∣ xs.length) ∧ Rd (fun b => ¬ S b ∧ b < w0.heap.size) w0 1 (.slice r.ao r.xs.length r.c) (r.xs.map encB)}

theorem chunkB_ok (ao : Option Addr) (cp sz : Nat) (xs : List Int) (n : Nat) (w : World) (hl_n : n = xs.length) (hsz : 1 ≤ sz) :
    Calls Tryd.prog 45 #[.slice ao n cp, .int .i64 ((sz : Int))] w (Ret Non w fun v w' => ∃ b2 b3, v = .func (.func 49) #[] #[.pointer (some ⟨b2, 0, none⟩), .pointer (some ⟨b3, 0, none⟩)] ∧ w.heap.size ≤ b2 ∧ w.heap.size ≤ b3 ∧ Box w' b2 [.slice ao xs.length cp] 24 ∧ Box w' b3 [.int .i64 (sz : Int)] 3) := by
  have hK := Kp.refl Non w
  subst hl_n
  refine calls_cw Tryd.func45 rfl (Nat.le_of_ble_eq_true rfl) ?_
  refine cw_reg rfl ?_
  refine rl (o_box (v := .slice ao xs.length cp) rfl (fun b1 w2 hb3 hz4 hk5 hB6 => ?_)) rfl
  replace hB6 : Box w2 b1 [.slice ao xs.length cp] 24 := hB6
  have hs_b1 := hK.size
  replace hK := hK.trans (Kp.ext hk5)
  refine rl (o_box (v := .int .i64 ((sz : Int))) rfl (fun b7 w8 hb9 hz10 hk11 hB12 => ?_)) rfl
  replace hB12 : Box w8 b7 [.int .i64 ((sz : Int))] 3 := hB12
  have hs_b7 := hK.size
  have hl_b1_b7 := hB6.lt
  replace hK := hK.trans (Kp.ext hk11)
  replace hB6 := hB6.ext hk11
  refine rl (o_assign (v := .nilFunc) rfl ?_) rfl
  refine rl_nil ?_
  refine cw_seq ?_
  refine cw_reg rfl ?_
  refine rl (o_loadB (v := .int .i64 ((sz : Int))) rfl hB12 tyS3 rfl ?_) rfl
  refine rl (o_lss rfl rfl ?_) rfl
  refine rl_nil ?_
  refine cw_if rfl (fun h13 => ?_) (fun h13 => ?_)
  · skip
    exfalso; omega -- done
  · skip
    refine cw_skip ?_
    refine k_tn ?_
    refine cw_reg rfl ?_
    refine rl (o_makeFunc ?_) rfl
    refine rl (o_assign (v := .func (.func 49) #[] #[.pointer (some ⟨b1, 0, none⟩), .pointer (some ⟨b7, 0, none⟩)]) rfl ?_) rfl
    refine rl_nil ?_
    refine cw_ret ?_
    refine ret_intro (v := .func (.func 49) #[] #[.pointer (some ⟨b1, 0, none⟩), .pointer (some ⟨b7, 0, none⟩)]) (res_ok (vs := [.func (.func 49) #[] #[.pointer (some ⟨b1, 0, none⟩), .pointer (some ⟨b7, 0, none⟩)]]) rfl ⟨rfl, trivial⟩) hK ?_
    exact ⟨b1, b7, rfl, by omega, by omega, hB6, hB12⟩

theorem chunkB_it {S : Nat → Prop} {w0 : World} (l : Nat) (ao : Option Addr) (cp sz : Nat) (xs : List Int) (b2 b3 : Nat) (J Jx : List (ChunkB S w0 sz xs) → World → Prop) (w : World) (hsz : 1 ≤ sz ∧ sz ≤ 1000000) (hn : xs.length ≤ 1000000000) (hS2 : ¬ S b2) (hS3 : ¬ S b3) (hS2l : b2 < w0.heap.size) (hS3l : b3 < w0.heap.size) (hJ0 : AbidesFrom w.heap.size J) (hY : ∀ pre x W1, J pre W1 → pre.length < xs.length + 1 → YieldAt Fence.wide 0 Tryd.prog l #[.slice x.1.ao x.1.xs.length x.1.c] W1 (fun e W' => (e = .returned (.bool true) ∧ J (pre ++ [x]) W' ∧ Kp S W1 W') ∨ (e = .returned (.bool false) ∧ Jx (pre ++ [x]) W'))) (hJi : J [] w) (hKS : Kp S w0 w) (hR : Rd (fun b => ¬ S b ∧ b < w0.heap.size) w 1 (.slice ao xs.length cp) (xs.map encB)) (hB2 : Box w b2 [.slice ao xs.length cp] 24) (hB3 : Box w b3 [.int .i64 ((sz : Int))] 3) :
    Calls Tryd.prog 49 #[.func (.yield l) #[] #[], .pointer (some ⟨b2, 0, none⟩), .pointer (some ⟨b3, 0, none⟩)] w (fun e w' => ∃ v, e = .returned v ∧ ((∃ ys : List (ChunkB S w0 sz xs), ys.map (·.1.xs) = chunks sz (xs.length + 1) xs ∧ J ys w') ∨ (∃ pre, True ∧ Jx pre w'))) := by
  have hK := Kp.refl ((fun _ => True)) w
  have hl_b2 := hB2.lt
  have hl_b3 := hB3.lt
  refine calls_cw Tryd.func49 rfl (Nat.le_of_ble_eq_true rfl) ?_
  refine cw_reg rfl ?_
  refine rl (o_assign (v := .int .i64 (0)) rfl ?_) rfl
  refine rl_nil ?_
  refine cw_block ?_
  refine cw_loop (fun mm ρ' w' => ∃ (ρ0 : Env) (i : Nat) (pre : List (ChunkB S w0 sz xs)), (ρ' = upds ρ0 [(0, .func (.yield l) #[] #[]), (1, .pointer (some ⟨b2, 0, none⟩)), (2, .pointer (some ⟨b3, 0, none⟩)), (4, .int .i64 ((i : Int)))]) ∧ (mm = xs.length + sz - i) ∧ (i ≤ xs.length + sz) ∧ (pre.length ≤ i) ∧ (sz ∣ xs.length → sz ∣ i) ∧ (∃ k, xs.length < i + k ∧ chunks sz (xs.length + 1) xs = pre.map (·.1.xs) ++ chunks sz k (xs.drop i)) ∧ (Kp ((fun _ => True)) w w') ∧ (Box w' b2 [.slice ao xs.length cp] 24) ∧ (Box w' b3 [.int .i64 ((sz : Int))] 3) ∧ (Kp S w0 w') ∧ (Rd (fun b => ¬ S b ∧ b < w0.heap.size) w' 1 (.slice ao xs.length cp) (xs.map encB)) ∧ (J pre w')) (xs.length + sz - (0)) ?_ ?_
  · skip
    exact ⟨_, 0, [], upds_eq _ _ ⟨rfl, rfl, rfl, rfl, trivial⟩, rfl, Nat.zero_le _, Nat.le_refl _, fun _ => ⟨0, by simp⟩, ⟨xs.length + 1, by omega, by simp⟩, hK, hB2, hB3, hKS, hR, hJi⟩
  · rintro mm ρ1 w1 ⟨ρ0, i, pre, rfl, rfl, hi, hpl, hdv, hch, hK, hB2, hB3, hKS, hR, hJ⟩
    refine cw_seq ?_
    refine cw_reg rfl ?_
    refine rl (o_move (v := .int .i64 ((i : Int))) rfl ?_) rfl
    refine rl (o_loadB (v := .slice ao xs.length cp) rfl hB2 tyS24 rfl ?_) rfl
    refine rl (o_len rfl Tryd.underlying24 ?_) rfl
    refine rl (o_lss rfl rfl ?_) rfl
    refine rl_nil ?_
    refine cw_if rfl (fun h2 => ?_) (fun h2 => ?_)
    · skip
      refine cw_skip ?_
      refine k_tn ?_
      refine cw_seq ?_
      refine cw_block ?_
      have hl_b2_d1 := hB2.lt
      have hl_b3_d1 := hB3.lt
      refine cw_norm [(0, .func (.yield l) #[] #[]), (1, .pointer (some ⟨b2, 0, none⟩)), (2, .pointer (some ⟨b3, 0, none⟩)), (4, .int .i64 ((i : Int)))] ⟨rfl, rfl, rfl, rfl, trivial⟩ (fun ρr3 => ?_)
      refine cw_drawn [.val (.int .i64 ((sz : Int))), .val (.slice ao xs.length cp), .val (.int .i64 ((i : Int))), .fact (fun v w' => ∃ (ao6 : Option Addr) (c6 : Nat), v = .slice ao6 (xs.length - ((i : Int)).toNat) c6 ∧ (Rd (fun b => ¬ S b ∧ b < w0.heap.size) w' 1 (.slice ao6 (xs.length - ((i : Int)).toNat) c6) ((xs.drop ((i : Int)).toNat).map encB))), .val (.int .i64 (((xs.length - ((i : Int)).toNat : Nat) : Int)))] [[], [], [], [1, 2], [1, 2, 3], [0, 1, 2, 3, 4], [0, 1, 2, 3, 4, 5]] 5 mixed (by kernel_rfl) ⟨trivial, trivial, trivial, (fun v w w' ⟨ao6, c6, hv, hR6⟩ hk => ⟨ao6, c6, hv, hR6.ext hk⟩), trivial, trivial⟩ ⟨⟨⟨⟨⟨trivial, ?_⟩, ?_⟩, ?_⟩, ?_⟩, ?_⟩ (fun w4 vs5 hE6 hkn7 => ?_)
      · refine obl_mk rfl (fun w4k vs hE hkn => ?_)
        replace hK := hK.trans (Kp.ext hE)
        replace hB2 := hB2.ext hE
        replace hB3 := hB3.ext hE
        replace hKS := hKS.trans (Kp.ext hE)
        replace hR := hR.ext hE
        replace hJ := hJ0 _ _ _ none hJ (grown_of_ext hE) (by intro r e; cases e)
        refine obl_t rfl ?_
        refine opk_norm [(2, .pointer (some ⟨b3, 0, none⟩))] ⟨rfl, trivial⟩ (fun ρq => ?_)
        refine o_loadB (v := .int .i64 ((sz : Int))) rfl hB3 tyS3 rfl ?_
        exact ⟨Kp.refl _ _, rfl⟩
      · refine obl_mk rfl (fun w4k vs hE hkn => ?_)
        replace hK := hK.trans (Kp.ext hE)
        replace hB2 := hB2.ext hE
        replace hB3 := hB3.ext hE
        replace hKS := hKS.trans (Kp.ext hE)
        replace hR := hR.ext hE
        replace hJ := hJ0 _ _ _ none hJ (grown_of_ext hE) (by intro r e; cases e)
        refine obl_t rfl ?_
        refine opk_norm [(1, .pointer (some ⟨b2, 0, none⟩))] ⟨rfl, trivial⟩ (fun ρq => ?_)
        refine o_loadB (v := .slice ao xs.length cp) rfl hB2 tyS24 rfl ?_
        exact ⟨Kp.refl _ _, rfl⟩
      · refine obl_mk rfl (fun w4k vs hE hkn => ?_)
        replace hK := hK.trans (Kp.ext hE)
        replace hB2 := hB2.ext hE
        replace hB3 := hB3.ext hE
        replace hKS := hKS.trans (Kp.ext hE)
        replace hR := hR.ext hE
        replace hJ := hJ0 _ _ _ none hJ (grown_of_ext hE) (by intro r e; cases e)
        refine obl_t rfl ?_
        refine opk_norm [(4, .int .i64 ((i : Int)))] ⟨rfl, trivial⟩ (fun ρq => ?_)
        refine o_move (v := .int .i64 ((i : Int))) rfl ?_
        exact ⟨Kp.refl _ _, rfl⟩
      · refine obl_mk rfl (fun w4k vs hE hkn => ?_)
        replace hK := hK.trans (Kp.ext hE)
        replace hB2 := hB2.ext hE
        replace hB3 := hB3.ext hE
        replace hKS := hKS.trans (Kp.ext hE)
        replace hR := hR.ext hE
        replace hJ := hJ0 _ _ _ none hJ (grown_of_ext hE) (by intro r e; cases e)
        refine obl_t rfl ?_
        refine opk_norm [(14, .slice ao xs.length cp), (15, .int .i64 ((i : Int)))] ⟨rfl, rfl, trivial⟩ (fun ρq => ?_)
        refine o_sliceFrom (i := (i : Int)) rfl rfl Tryd.underlying24 Tryd.sizeOf5 hR (by omega) (by simp only [List.length_map]; omega) (fun ao6 c6 hR6 => ?_)
        replace hR6 : Rd (fun b => ¬ S b ∧ b < w0.heap.size) w4k 1 (.slice ao6 (xs.length - ((i : Int)).toNat) c6) ((xs.drop ((i : Int)).toNat).map encB) := by first | exact hR6 | (simp only [← List.map_drop, ← List.map_take] at hR6; exact hR6)
        exact ⟨Kp.refl _ _, ao6, c6, rfl, hR6⟩
      · refine obl_mk rfl (fun w4k vs hE hkn => ?_)
        replace hK := hK.trans (Kp.ext hE)
        replace hB2 := hB2.ext hE
        replace hB3 := hB3.ext hE
        replace hKS := hKS.trans (Kp.ext hE)
        replace hR := hR.ext hE
        replace hJ := hJ0 _ _ _ none hJ (grown_of_ext hE) (by intro r e; cases e)
        obtain ⟨-, -, ⟨ao6, c6, hv3, hR6⟩, -⟩ := hkn
        refine obl_t rfl ?_
        refine opk_norm [(16, .slice ao6 (xs.length - ((i : Int)).toNat) c6)] ⟨hv3, trivial⟩ (fun ρq => ?_)
        refine o_len rfl Tryd.underlying24 ?_
        exact ⟨Kp.refl _ _, rfl⟩
      replace hK := hK.trans (Kp.ext hE6)
      replace hB2 := hB2.ext hE6
      replace hB3 := hB3.ext hE6
      replace hKS := hKS.trans (Kp.ext hE6)
      replace hR := hR.ext hE6
      replace hJ := hJ0 _ _ _ none hJ (grown_of_ext hE6) (by intro r e; cases e)
      refine rl_norm [(0, .func (.yield l) #[] #[]), (1, .pointer (some ⟨b2, 0, none⟩)), (2, .pointer (some ⟨b3, 0, none⟩)), (4, .int .i64 ((i : Int))), (13, .int .i64 ((sz : Int))), (17, .int .i64 (((xs.length - ((i : Int)).toNat : Nat) : Int)))] ⟨rfl, rfl, rfl, rfl, rfl, rfl, trivial⟩ (fun ρr3q => ?_)
      refine rl (o_min rfl rfl ?_) rfl
      refine rl (o_assign (v := .int .i64 (min (sz : Int) ((xs.length - ((i : Int)).toNat : Nat) : Int))) rfl ?_) rfl
      refine rl_nil ?_
      refine cw_reg rfl ?_
      refine rl (o_move (v := .func (.yield l) #[] #[]) rfl ?_) rfl
      refine rl (o_loadB (v := .slice ao xs.length cp) rfl hB2 tyS24 rfl ?_) rfl
      refine rl (o_move (v := .int .i64 ((i : Int))) rfl ?_) rfl
      refine rl (o_move (v := .int .i64 ((i : Int))) rfl ?_) rfl
      refine rl (o_move (v := .int .i64 (min (sz : Int) ((xs.length - ((i : Int)).toNat : Nat) : Int))) rfl ?_) rfl
      refine rl (o_add64 (a := (i : Int)) (b := min (sz : Int) ((xs.length - ((i : Int)).toNat : Nat) : Int)) rfl rfl (by omega) (by omega) ?_) rfl
      refine rl (o_move (v := .int .i64 ((i : Int))) rfl ?_) rfl
      refine rl (o_move (v := .int .i64 (min (sz : Int) ((xs.length - ((i : Int)).toNat : Nat) : Int))) rfl ?_) rfl
      refine rl (o_add64 (a := (i : Int)) (b := min (sz : Int) ((xs.length - ((i : Int)).toNat : Nat) : Int)) rfl rfl (by omega) (by omega) ?_) rfl
      refine rl (o_slice3 (i := (i : Int)) (j := (i : Int) + (min (sz : Int) ((xs.length - ((i : Int)).toNat : Nat) : Int))) (m := (i : Int) + (min (sz : Int) ((xs.length - ((i : Int)).toNat : Nat) : Int))) rfl rfl rfl rfl Tryd.underlying24 Tryd.sizeOf5 hR (by omega) (by omega) (by simp only [List.length_map]; omega) rfl (fun ao7 c7 hRow => ?_)) rfl
      replace hRow : Rd (fun b => ¬ S b ∧ b < w0.heap.size) w4 1 (.slice ao7 (((i : Int) + (min (sz : Int) ((xs.length - ((i : Int)).toNat : Nat) : Int))).toNat - ((i : Int)).toNat) c7) (((xs.drop ((i : Int)).toNat).take (((i : Int) + (min (sz : Int) ((xs.length - ((i : Int)).toNat : Nat) : Int))).toNat - ((i : Int)).toNat)).map encB) := by first | exact hRow | (simp only [← List.map_drop, ← List.map_take] at hRow; exact hRow)
      have hXS : (xs.drop ((i : Int)).toNat).take (((i : Int) + (min (sz : Int) ((xs.length - ((i : Int)).toNat : Nat) : Int))).toNat - ((i : Int)).toNat) = (xs.drop i).take sz := by
        have e : ((i : Int) + min (sz : Int) ((xs.length - i : Nat) : Int)).toNat - i = min sz (xs.length - i) := by omega
        simp only [Int.toNat_natCast]
        rw [e]
        by_cases h : sz ≤ xs.length - i
        · rw [Nat.min_eq_left h]
        · rw [Nat.min_eq_right (by omega), List.take_of_length_le (by simp), List.take_of_length_le (by simp; omega)]
      have hrl : ((xs.drop ((i : Int)).toNat).take (((i : Int) + (min (sz : Int) ((xs.length - ((i : Int)).toNat : Nat) : Int))).toNat - ((i : Int)).toNat)).length = ((i : Int) + (min (sz : Int) ((xs.length - ((i : Int)).toNat : Nat) : Int))).toNat - ((i : Int)).toNat := by rw [hXS]; simp; omega
      have hel : ((xs.drop ((i : Int)).toNat).take (((i : Int) + (min (sz : Int) ((xs.length - ((i : Int)).toNat : Nat) : Int))).toNat - ((i : Int)).toNat)).length ≤ sz ∧ (xs.drop ((i : Int)).toNat).take (((i : Int) + (min (sz : Int) ((xs.length - ((i : Int)).toNat : Nat) : Int))).toNat - ((i : Int)).toNat) ≠ [] ∧ (∀ z ∈ (xs.drop ((i : Int)).toNat).take (((i : Int) + (min (sz : Int) ((xs.length - ((i : Int)).toNat : Nat) : Int))).toNat - ((i : Int)).toNat), z ∈ xs) ∧ (((xs.drop ((i : Int)).toNat).take (((i : Int) + (min (sz : Int) ((xs.length - ((i : Int)).toNat : Nat) : Int))).toNat - ((i : Int)).toNat)).length = sz ∨ ¬ sz ∣ xs.length) ∧ Rd (fun b => ¬ S b ∧ b < w0.heap.size) w0 1 (.slice ao7 ((xs.drop ((i : Int)).toNat).take (((i : Int) + (min (sz : Int) ((xs.length - ((i : Int)).toNat : Nat) : Int))).toNat - ((i : Int)).toNat)).length c7) (((xs.drop ((i : Int)).toNat).take (((i : Int) + (min (sz : Int) ((xs.length - ((i : Int)).toNat : Nat) : Int))).toNat - ((i : Int)).toNat)).map encB) := by
        refine ⟨by rw [hXS]; simp; omega, by rw [hXS]; intro h; have := congrArg List.length h; simp at this; omega, by rw [hXS]; intro z hz; exact List.mem_of_mem_drop (List.mem_of_mem_take hz), ?_, ?_⟩
        · rw [hXS]
          by_cases hd : sz ∣ xs.length
          · left
            obtain ⟨q, hq⟩ := hd
            obtain ⟨r, hr⟩ := hdv ⟨q, hq⟩
            have : r < q := Nat.lt_of_mul_lt_mul_left (a := sz) (by omega)
            have : sz * (r + 1) ≤ sz * q := Nat.mul_le_mul_left _ this
            rw [Nat.mul_succ] at this
            simp; omega
          · exact .inr hd
        · refine Rd.back (w' := w4) ?_ hKS (fun b h => ⟨h.2, h.1⟩)
          rw [hrl]; exact hRow
      refine rl (o_yield rfl (v := .slice ao7 ((xs.drop ((i : Int)).toNat).take (((i : Int) + (min (sz : Int) ((xs.length - ((i : Int)).toNat : Nat) : Int))).toNat - ((i : Int)).toNat)).length c7) (by show (.slice ao7 (((i : Int) + (min (sz : Int) ((xs.length - ((i : Int)).toNat : Nat) : Int))).toNat - ((i : Int)).toNat) c7 : Value) = _; rw [hrl]) (hY pre ⟨⟨ao7, c7, (xs.drop ((i : Int)).toNat).take (((i : Int) + (min (sz : Int) ((xs.length - ((i : Int)).toNat : Nat) : Int))).toNat - ((i : Int)).toNat)⟩, hel⟩ w4 hJ (by omega)) ?_ ?_) rfl
      · skip
        rintro w8 ⟨hJ2, hk9⟩
        replace hK := hK.trans (hk9.mono (fun _ _ _ => trivial))
        replace hB2 := hB2.kp hk9 (by assumption)
        replace hB3 := hB3.kp hk9 (by assumption)
        replace hKS := hKS.trans hk9
        replace hR := hR.kp hk9 (fun b _ h _ => by simp_all)
        clear hJ; have hJ := hJ2; clear hJ2
        replace hRow := hRow.kp hk9 (fun b _ h _ => by simp_all)
        refine rl (o_not rfl ?_) rfl
        refine rl_nil ?_
        refine cw_condF rfl ?_
        refine cw_skip ?_
        refine k_bn ?_
        refine k_tn ?_
        refine cw_region rfl ?_
        refine rl (o_move (v := .int .i64 ((i : Int))) rfl ?_) rfl
        refine rl (o_loadB (v := .int .i64 ((sz : Int))) rfl hB3 tyS3 rfl ?_) rfl
        refine rl (o_add64 (a := (i : Int)) (b := (sz : Int)) rfl rfl (by omega) (by omega) ?_) rfl
        refine rl (o_assign (v := .int .i64 ((i : Int) + (sz : Int))) rfl ?_) rfl
        refine rl_nil ?_
        refine k_tn ?_
        refine ⟨_, ?_, _, i + sz, pre ++ [(⟨⟨ao7, c7, _⟩, hel⟩ : ChunkB S w0 sz xs)], upds_eq _ _ ⟨rfl, rfl, rfl, rfl, trivial⟩, rfl, by omega, (by simp; omega), (fun h => (Nat.dvd_add_right (hdv h)).2 ⟨1, by simp⟩), (by obtain ⟨k, hk1, hk2⟩ := hch; obtain ⟨k, rfl⟩ : ∃ q, k = q + 1 := ⟨k - 1, by omega⟩; refine ⟨k, by omega, ?_⟩; rw [hk2, chunks_step (by intro h; have := congrArg List.length h; simp at this; omega)]; simp [hXS, List.drop_drop, List.append_assoc] <;> omega), hK, hB2, hB3, hKS, hR, hJ⟩
        omega
      · skip
        intro w10 hJx2
        refine rl (o_not rfl ?_) rfl
        refine rl_nil ?_
        refine cw_condT rfl ?_
        refine cw_ret ?_
        refine k_br ?_
        refine k_tr ?_
        refine k_tr ?_
        refine k_br ?_
        refine ret_raw (v := .tuple #[]) (res_ok (vs := []) rfl trivial) ⟨_, rfl, ?_⟩
        exact .inr ⟨_, trivial, hJx2⟩
    · skip
      refine cw_exit ?_
      refine k_te ?_
      refine k_te ?_
      refine k_bh ?_
      refine ret_rawN (v := .tuple #[]) (res_ok (vs := []) rfl trivial) ⟨_, rfl, ?_⟩
      obtain ⟨k, hk1, hk2⟩ := hch
      exact .inl ⟨pre, by rw [hk2, List.drop_of_length_le (by omega), chunks_nil]; simp, hJ⟩

theorem chunkB_seq {S : Nat → Prop} {w0 : World} (ao : Option Addr) (cp sz : Nat) (xs : List Int) (b2 b3 : Nat) (hsz : 1 ≤ sz ∧ sz ≤ 1000000) (hn : xs.length ≤ 1000000000) (hS2 : ¬ S b2) (hS3 : ¬ S b3)
    (hB2 : Box w0 b2 [.slice ao xs.length cp] 24) (hB3 : Box w0 b3 [.int .i64 (sz : Int)] 3) (hR : Rd (fun b => ¬ S b ∧ b < w0.heap.size) w0 1 (.slice ao xs.length cp) (xs.map encB)) :
    SeqStopsK Fence.wide 0 Tryd.prog 49 #[.pointer (some ⟨b2, 0, none⟩), .pointer (some ⟨b3, 0, none⟩)] (fun x : ChunkB S w0 sz xs => #[.slice x.1.ao x.1.xs.length x.1.c]) (fun A B => Kp S A B) (fun l => l.map (·.1.xs) = chunks sz (xs.length + 1) xs) (fun _ => True) (xs.length + 1) w0 := by
  intro l J Jx W hb hJ hJx hY h0
  have hE : Ext w0 W := Kp.of_below hb
  refine callsIn_wide.2 (Calls.mono (chunkB_it (S := S) (w0 := w0) l ao cp sz xs b2 b3 J Jx W hsz hn hS2 hS3 hB2.lt hB3.lt hJ hY h0 (Kp.ext hE) (hR.ext hE) (hB2.ext hE) (hB3.ext hE)) ?_)
  rintro e W' ⟨v, rfl, h⟩
  exact ⟨⟨v, rfl⟩, h⟩

abbrev ChunkU (S : Nat → Prop) (w0 : World) (sz : Nat) (xs : List Int) : Type := {r : Row // r.xs.length ≤ sz ∧ r.xs ≠ [] ∧ (∀ z ∈ r.xs, z ∈ xs) ∧ (r.xs.length = sz ∨ ¬ sz ∣ xs.length) ∧ Rd (fun b => ¬ S b ∧ b < w0.heap.size) w0 1 (.slice r.ao r.xs.length r.c) (r.xs.map encU)}

theorem chunkU_ok (ao : Option Addr) (cp sz : Nat) (xs : List Int) (n : Nat) (w : World) (hl_n : n = xs.length) (hsz : 1 ≤ sz) :
    Calls Tryd.prog 39 #[.slice ao n cp, .int .i64 ((sz : Int))] w (Ret Non w fun v w' => ∃ b2 b3, v = .func (.func 46) #[] #[.pointer (some ⟨b2, 0, none⟩), .pointer (some ⟨b3, 0, none⟩)] ∧ w.heap.size ≤ b2 ∧ w.heap.size ≤ b3 ∧ Box w' b2 [.slice ao xs.length cp] 83 ∧ Box w' b3 [.int .i64 (sz : Int)] 3) := by
  have hK := Kp.refl Non w
  subst hl_n
  refine calls_cw Tryd.func39 rfl (Nat.le_of_ble_eq_true rfl) ?_
  refine cw_reg rfl ?_
  refine rl (o_box (v := .slice ao xs.length cp) rfl (fun b1 w2 hb3 hz4 hk5 hB6 => ?_)) rfl
  replace hB6 : Box w2 b1 [.slice ao xs.length cp] 83 := hB6
  have hs_b1 := hK.size
  replace hK := hK.trans (Kp.ext hk5)
  refine rl (o_box (v := .int .i64 ((sz : Int))) rfl (fun b7 w8 hb9 hz10 hk11 hB12 => ?_)) rfl
  replace hB12 : Box w8 b7 [.int .i64 ((sz : Int))] 3 := hB12
  have hs_b7 := hK.size
  have hl_b1_b7 := hB6.lt
  replace hK := hK.trans (Kp.ext hk11)
  replace hB6 := hB6.ext hk11
  refine rl (o_assign (v := .nilFunc) rfl ?_) rfl
  refine rl_nil ?_
  refine cw_seq ?_
  refine cw_reg rfl ?_
  refine rl (o_loadB (v := .int .i64 ((sz : Int))) rfl hB12 tyS3 rfl ?_) rfl
  refine rl (o_lss rfl rfl ?_) rfl
  refine rl_nil ?_
  refine cw_if rfl (fun h13 => ?_) (fun h13 => ?_)
  · skip
    exfalso; omega -- done
  · skip
    refine cw_skip ?_
    refine k_tn ?_
    refine cw_reg rfl ?_
    refine rl (o_makeFunc ?_) rfl
    refine rl (o_assign (v := .func (.func 46) #[] #[.pointer (some ⟨b1, 0, none⟩), .pointer (some ⟨b7, 0, none⟩)]) rfl ?_) rfl
    refine rl_nil ?_
    refine cw_ret ?_
    refine ret_intro (v := .func (.func 46) #[] #[.pointer (some ⟨b1, 0, none⟩), .pointer (some ⟨b7, 0, none⟩)]) (res_ok (vs := [.func (.func 46) #[] #[.pointer (some ⟨b1, 0, none⟩), .pointer (some ⟨b7, 0, none⟩)]]) rfl ⟨rfl, trivial⟩) hK ?_
    exact ⟨b1, b7, rfl, by omega, by omega, hB6, hB12⟩

theorem chunkU_it {S : Nat → Prop} {w0 : World} (l : Nat) (ao : Option Addr) (cp sz : Nat) (xs : List Int) (b2 b3 : Nat) (J Jx : List (ChunkU S w0 sz xs) → World → Prop) (w : World) (hsz : 1 ≤ sz ∧ sz ≤ 1000000) (hn : xs.length ≤ 1000000000) (hS2 : ¬ S b2) (hS3 : ¬ S b3) (hS2l : b2 < w0.heap.size) (hS3l : b3 < w0.heap.size) (hJ0 : AbidesFrom w.heap.size J) (hY : ∀ pre x W1, J pre W1 → pre.length < xs.length + 1 → YieldAt Fence.wide 0 Tryd.prog l #[.slice x.1.ao x.1.xs.length x.1.c] W1 (fun e W' => (e = .returned (.bool true) ∧ J (pre ++ [x]) W' ∧ Kp S W1 W') ∨ (e = .returned (.bool false) ∧ Jx (pre ++ [x]) W'))) (hJi : J [] w) (hKS : Kp S w0 w) (hR : Rd (fun b => ¬ S b ∧ b < w0.heap.size) w 1 (.slice ao xs.length cp) (xs.map encU)) (hB2 : Box w b2 [.slice ao xs.length cp] 83) (hB3 : Box w b3 [.int .i64 ((sz : Int))] 3) :
    Calls Tryd.prog 46 #[.func (.yield l) #[] #[], .pointer (some ⟨b2, 0, none⟩), .pointer (some ⟨b3, 0, none⟩)] w (fun e w' => ∃ v, e = .returned v ∧ ((∃ ys : List (ChunkU S w0 sz xs), ys.map (·.1.xs) = chunks sz (xs.length + 1) xs ∧ J ys w') ∨ (∃ pre, True ∧ Jx pre w'))) := by
  have hK := Kp.refl ((fun _ => True)) w
  have hl_b2 := hB2.lt
  have hl_b3 := hB3.lt
  refine calls_cw Tryd.func46 rfl (Nat.le_of_ble_eq_true rfl) ?_
  refine cw_reg rfl ?_
  refine rl (o_assign (v := .int .i64 (0)) rfl ?_) rfl
  refine rl_nil ?_
  refine cw_block ?_
  refine cw_loop (fun mm ρ' w' => ∃ (ρ0 : Env) (i : Nat) (pre : List (ChunkU S w0 sz xs)), (ρ' = upds ρ0 [(0, .func (.yield l) #[] #[]), (1, .pointer (some ⟨b2, 0, none⟩)), (2, .pointer (some ⟨b3, 0, none⟩)), (4, .int .i64 ((i : Int)))]) ∧ (mm = xs.length + sz - i) ∧ (i ≤ xs.length + sz) ∧ (pre.length ≤ i) ∧ (sz ∣ xs.length → sz ∣ i) ∧ (∃ k, xs.length < i + k ∧ chunks sz (xs.length + 1) xs = pre.map (·.1.xs) ++ chunks sz k (xs.drop i)) ∧ (Kp ((fun _ => True)) w w') ∧ (Box w' b2 [.slice ao xs.length cp] 83) ∧ (Box w' b3 [.int .i64 ((sz : Int))] 3) ∧ (Kp S w0 w') ∧ (Rd (fun b => ¬ S b ∧ b < w0.heap.size) w' 1 (.slice ao xs.length cp) (xs.map encU)) ∧ (J pre w')) (xs.length + sz - (0)) ?_ ?_
  · skip
    exact ⟨_, 0, [], upds_eq _ _ ⟨rfl, rfl, rfl, rfl, trivial⟩, rfl, Nat.zero_le _, Nat.le_refl _, fun _ => ⟨0, by simp⟩, ⟨xs.length + 1, by omega, by simp⟩, hK, hB2, hB3, hKS, hR, hJi⟩
  · rintro mm ρ1 w1 ⟨ρ0, i, pre, rfl, rfl, hi, hpl, hdv, hch, hK, hB2, hB3, hKS, hR, hJ⟩
    refine cw_seq ?_
    refine cw_reg rfl ?_
    refine rl (o_move (v := .int .i64 ((i : Int))) rfl ?_) rfl
    refine rl (o_loadB (v := .slice ao xs.length cp) rfl hB2 tyS83 rfl ?_) rfl
    refine rl (o_len rfl Tryd.underlying83 ?_) rfl
    refine rl (o_lss rfl rfl ?_) rfl
    refine rl_nil ?_
    refine cw_if rfl (fun h2 => ?_) (fun h2 => ?_)
    · skip
      refine cw_skip ?_
      refine k_tn ?_
      refine cw_seq ?_
      refine cw_block ?_
      have hl_b2_d2 := hB2.lt
      have hl_b3_d2 := hB3.lt
      refine cw_norm [(0, .func (.yield l) #[] #[]), (1, .pointer (some ⟨b2, 0, none⟩)), (2, .pointer (some ⟨b3, 0, none⟩)), (4, .int .i64 ((i : Int)))] ⟨rfl, rfl, rfl, rfl, trivial⟩ (fun ρr3 => ?_)
      refine cw_drawn [.val (.int .i64 ((sz : Int))), .val (.slice ao xs.length cp), .val (.int .i64 ((i : Int))), .fact (fun v w' => ∃ (ao6 : Option Addr) (c6 : Nat), v = .slice ao6 (xs.length - ((i : Int)).toNat) c6 ∧ (Rd (fun b => ¬ S b ∧ b < w0.heap.size) w' 1 (.slice ao6 (xs.length - ((i : Int)).toNat) c6) ((xs.drop ((i : Int)).toNat).map encU))), .val (.int .i64 (((xs.length - ((i : Int)).toNat : Nat) : Int)))] [[], [], [], [1, 2], [1, 2, 3], [0, 1, 2, 3, 4], [0, 1, 2, 3, 4, 5]] 5 mixed (by kernel_rfl) ⟨trivial, trivial, trivial, (fun v w w' ⟨ao6, c6, hv, hR6⟩ hk => ⟨ao6, c6, hv, hR6.ext hk⟩), trivial, trivial⟩ ⟨⟨⟨⟨⟨trivial, ?_⟩, ?_⟩, ?_⟩, ?_⟩, ?_⟩ (fun w4 vs5 hE6 hkn7 => ?_)
      · refine obl_mk rfl (fun w4k vs hE hkn => ?_)
        replace hK := hK.trans (Kp.ext hE)
        replace hB2 := hB2.ext hE
        replace hB3 := hB3.ext hE
        replace hKS := hKS.trans (Kp.ext hE)
        replace hR := hR.ext hE
        replace hJ := hJ0 _ _ _ none hJ (grown_of_ext hE) (by intro r e; cases e)
        refine obl_t rfl ?_
        refine opk_norm [(2, .pointer (some ⟨b3, 0, none⟩))] ⟨rfl, trivial⟩ (fun ρq => ?_)
        refine o_loadB (v := .int .i64 ((sz : Int))) rfl hB3 tyS3 rfl ?_
        exact ⟨Kp.refl _ _, rfl⟩
      · refine obl_mk rfl (fun w4k vs hE hkn => ?_)
        replace hK := hK.trans (Kp.ext hE)
        replace hB2 := hB2.ext hE
        replace hB3 := hB3.ext hE
        replace hKS := hKS.trans (Kp.ext hE)
        replace hR := hR.ext hE
        replace hJ := hJ0 _ _ _ none hJ (grown_of_ext hE) (by intro r e; cases e)
        refine obl_t rfl ?_
        refine opk_norm [(1, .pointer (some ⟨b2, 0, none⟩))] ⟨rfl, trivial⟩ (fun ρq => ?_)
        refine o_loadB (v := .slice ao xs.length cp) rfl hB2 tyS83 rfl ?_
        exact ⟨Kp.refl _ _, rfl⟩
      · refine obl_mk rfl (fun w4k vs hE hkn => ?_)
        replace hK := hK.trans (Kp.ext hE)
        replace hB2 := hB2.ext hE
        replace hB3 := hB3.ext hE
        replace hKS := hKS.trans (Kp.ext hE)
        replace hR := hR.ext hE
        replace hJ := hJ0 _ _ _ none hJ (grown_of_ext hE) (by intro r e; cases e)
        refine obl_t rfl ?_
        refine opk_norm [(4, .int .i64 ((i : Int)))] ⟨rfl, trivial⟩ (fun ρq => ?_)
        refine o_move (v := .int .i64 ((i : Int))) rfl ?_
        exact ⟨Kp.refl _ _, rfl⟩
      · refine obl_mk rfl (fun w4k vs hE hkn => ?_)
        replace hK := hK.trans (Kp.ext hE)
        replace hB2 := hB2.ext hE
        replace hB3 := hB3.ext hE
        replace hKS := hKS.trans (Kp.ext hE)
        replace hR := hR.ext hE
        replace hJ := hJ0 _ _ _ none hJ (grown_of_ext hE) (by intro r e; cases e)
        refine obl_t rfl ?_
        refine opk_norm [(14, .slice ao xs.length cp), (15, .int .i64 ((i : Int)))] ⟨rfl, rfl, trivial⟩ (fun ρq => ?_)
        refine o_sliceFrom (i := (i : Int)) rfl rfl Tryd.underlying83 Tryd.sizeOf36 hR (by omega) (by simp only [List.length_map]; omega) (fun ao6 c6 hR6 => ?_)
        replace hR6 : Rd (fun b => ¬ S b ∧ b < w0.heap.size) w4k 1 (.slice ao6 (xs.length - ((i : Int)).toNat) c6) ((xs.drop ((i : Int)).toNat).map encU) := by first | exact hR6 | (simp only [← List.map_drop, ← List.map_take] at hR6; exact hR6)
        exact ⟨Kp.refl _ _, ao6, c6, rfl, hR6⟩
      · refine obl_mk rfl (fun w4k vs hE hkn => ?_)
        replace hK := hK.trans (Kp.ext hE)
        replace hB2 := hB2.ext hE
        replace hB3 := hB3.ext hE
        replace hKS := hKS.trans (Kp.ext hE)
        replace hR := hR.ext hE
        replace hJ := hJ0 _ _ _ none hJ (grown_of_ext hE) (by intro r e; cases e)
        obtain ⟨-, -, ⟨ao6, c6, hv3, hR6⟩, -⟩ := hkn
        refine obl_t rfl ?_
        refine opk_norm [(16, .slice ao6 (xs.length - ((i : Int)).toNat) c6)] ⟨hv3, trivial⟩ (fun ρq => ?_)
        refine o_len rfl Tryd.underlying83 ?_
        exact ⟨Kp.refl _ _, rfl⟩
      replace hK := hK.trans (Kp.ext hE6)
      replace hB2 := hB2.ext hE6
      replace hB3 := hB3.ext hE6
      replace hKS := hKS.trans (Kp.ext hE6)
      replace hR := hR.ext hE6
      replace hJ := hJ0 _ _ _ none hJ (grown_of_ext hE6) (by intro r e; cases e)
      refine rl_norm [(0, .func (.yield l) #[] #[]), (1, .pointer (some ⟨b2, 0, none⟩)), (2, .pointer (some ⟨b3, 0, none⟩)), (4, .int .i64 ((i : Int))), (13, .int .i64 ((sz : Int))), (17, .int .i64 (((xs.length - ((i : Int)).toNat : Nat) : Int)))] ⟨rfl, rfl, rfl, rfl, rfl, rfl, trivial⟩ (fun ρr3q => ?_)
      refine rl (o_min rfl rfl ?_) rfl
      refine rl (o_assign (v := .int .i64 (min (sz : Int) ((xs.length - ((i : Int)).toNat : Nat) : Int))) rfl ?_) rfl
      refine rl_nil ?_
      refine cw_reg rfl ?_
      refine rl (o_move (v := .func (.yield l) #[] #[]) rfl ?_) rfl
      refine rl (o_loadB (v := .slice ao xs.length cp) rfl hB2 tyS83 rfl ?_) rfl
      refine rl (o_move (v := .int .i64 ((i : Int))) rfl ?_) rfl
      refine rl (o_move (v := .int .i64 ((i : Int))) rfl ?_) rfl
      refine rl (o_move (v := .int .i64 (min (sz : Int) ((xs.length - ((i : Int)).toNat : Nat) : Int))) rfl ?_) rfl
      refine rl (o_add64 (a := (i : Int)) (b := min (sz : Int) ((xs.length - ((i : Int)).toNat : Nat) : Int)) rfl rfl (by omega) (by omega) ?_) rfl
      refine rl (o_move (v := .int .i64 ((i : Int))) rfl ?_) rfl
      refine rl (o_move (v := .int .i64 (min (sz : Int) ((xs.length - ((i : Int)).toNat : Nat) : Int))) rfl ?_) rfl
      refine rl (o_add64 (a := (i : Int)) (b := min (sz : Int) ((xs.length - ((i : Int)).toNat : Nat) : Int)) rfl rfl (by omega) (by omega) ?_) rfl
      refine rl (o_slice3 (i := (i : Int)) (j := (i : Int) + (min (sz : Int) ((xs.length - ((i : Int)).toNat : Nat) : Int))) (m := (i : Int) + (min (sz : Int) ((xs.length - ((i : Int)).toNat : Nat) : Int))) rfl rfl rfl rfl Tryd.underlying83 Tryd.sizeOf36 hR (by omega) (by omega) (by simp only [List.length_map]; omega) rfl (fun ao7 c7 hRow => ?_)) rfl
      replace hRow : Rd (fun b => ¬ S b ∧ b < w0.heap.size) w4 1 (.slice ao7 (((i : Int) + (min (sz : Int) ((xs.length - ((i : Int)).toNat : Nat) : Int))).toNat - ((i : Int)).toNat) c7) (((xs.drop ((i : Int)).toNat).take (((i : Int) + (min (sz : Int) ((xs.length - ((i : Int)).toNat : Nat) : Int))).toNat - ((i : Int)).toNat)).map encU) := by first | exact hRow | (simp only [← List.map_drop, ← List.map_take] at hRow; exact hRow)
      have hXS : (xs.drop ((i : Int)).toNat).take (((i : Int) + (min (sz : Int) ((xs.length - ((i : Int)).toNat : Nat) : Int))).toNat - ((i : Int)).toNat) = (xs.drop i).take sz := by
        have e : ((i : Int) + min (sz : Int) ((xs.length - i : Nat) : Int)).toNat - i = min sz (xs.length - i) := by omega
        simp only [Int.toNat_natCast]
        rw [e]
        by_cases h : sz ≤ xs.length - i
        · rw [Nat.min_eq_left h]
        · rw [Nat.min_eq_right (by omega), List.take_of_length_le (by simp), List.take_of_length_le (by simp; omega)]
      have hrl : ((xs.drop ((i : Int)).toNat).take (((i : Int) + (min (sz : Int) ((xs.length - ((i : Int)).toNat : Nat) : Int))).toNat - ((i : Int)).toNat)).length = ((i : Int) + (min (sz : Int) ((xs.length - ((i : Int)).toNat : Nat) : Int))).toNat - ((i : Int)).toNat := by rw [hXS]; simp; omega
      have hel : ((xs.drop ((i : Int)).toNat).take (((i : Int) + (min (sz : Int) ((xs.length - ((i : Int)).toNat : Nat) : Int))).toNat - ((i : Int)).toNat)).length ≤ sz ∧ (xs.drop ((i : Int)).toNat).take (((i : Int) + (min (sz : Int) ((xs.length - ((i : Int)).toNat : Nat) : Int))).toNat - ((i : Int)).toNat) ≠ [] ∧ (∀ z ∈ (xs.drop ((i : Int)).toNat).take (((i : Int) + (min (sz : Int) ((xs.length - ((i : Int)).toNat : Nat) : Int))).toNat - ((i : Int)).toNat), z ∈ xs) ∧ (((xs.drop ((i : Int)).toNat).take (((i : Int) + (min (sz : Int) ((xs.length - ((i : Int)).toNat : Nat) : Int))).toNat - ((i : Int)).toNat)).length = sz ∨ ¬ sz ∣ xs.length) ∧ Rd (fun b => ¬ S b ∧ b < w0.heap.size) w0 1 (.slice ao7 ((xs.drop ((i : Int)).toNat).take (((i : Int) + (min (sz : Int) ((xs.length - ((i : Int)).toNat : Nat) : Int))).toNat - ((i : Int)).toNat)).length c7) (((xs.drop ((i : Int)).toNat).take (((i : Int) + (min (sz : Int) ((xs.length - ((i : Int)).toNat : Nat) : Int))).toNat - ((i : Int)).toNat)).map encU) := by
        refine ⟨by rw [hXS]; simp; omega, by rw [hXS]; intro h; have := congrArg List.length h; simp at this; omega, by rw [hXS]; intro z hz; exact List.mem_of_mem_drop (List.mem_of_mem_take hz), ?_, ?_⟩
        · rw [hXS]
          by_cases hd : sz ∣ xs.length
          · left
            obtain ⟨q, hq⟩ := hd
            obtain ⟨r, hr⟩ := hdv ⟨q, hq⟩
            have : r < q := Nat.lt_of_mul_lt_mul_left (a := sz) (by omega)
            have : sz * (r + 1) ≤ sz * q := Nat.mul_le_mul_left _ this
            rw [Nat.mul_succ] at this
            simp; omega
          · exact .inr hd
        · refine Rd.back (w' := w4) ?_ hKS (fun b h => ⟨h.2, h.1⟩)
          rw [hrl]; exact hRow
      refine rl (o_yield rfl (v := .slice ao7 ((xs.drop ((i : Int)).toNat).take (((i : Int) + (min (sz : Int) ((xs.length - ((i : Int)).toNat : Nat) : Int))).toNat - ((i : Int)).toNat)).length c7) (by show (.slice ao7 (((i : Int) + (min (sz : Int) ((xs.length - ((i : Int)).toNat : Nat) : Int))).toNat - ((i : Int)).toNat) c7 : Value) = _; rw [hrl]) (hY pre ⟨⟨ao7, c7, (xs.drop ((i : Int)).toNat).take (((i : Int) + (min (sz : Int) ((xs.length - ((i : Int)).toNat : Nat) : Int))).toNat - ((i : Int)).toNat)⟩, hel⟩ w4 hJ (by omega)) ?_ ?_) rfl
      · skip
        rintro w8 ⟨hJ2, hk9⟩
        replace hK := hK.trans (hk9.mono (fun _ _ _ => trivial))
        replace hB2 := hB2.kp hk9 (by assumption)
        replace hB3 := hB3.kp hk9 (by assumption)
        replace hKS := hKS.trans hk9
        replace hR := hR.kp hk9 (fun b _ h _ => by simp_all)
        clear hJ; have hJ := hJ2; clear hJ2
        replace hRow := hRow.kp hk9 (fun b _ h _ => by simp_all)
        refine rl (o_not rfl ?_) rfl
        refine rl_nil ?_
        refine cw_condF rfl ?_
        refine cw_skip ?_
        refine k_bn ?_
        refine k_tn ?_
        refine cw_region rfl ?_
        refine rl (o_move (v := .int .i64 ((i : Int))) rfl ?_) rfl
        refine rl (o_loadB (v := .int .i64 ((sz : Int))) rfl hB3 tyS3 rfl ?_) rfl
        refine rl (o_add64 (a := (i : Int)) (b := (sz : Int)) rfl rfl (by omega) (by omega) ?_) rfl
        refine rl (o_assign (v := .int .i64 ((i : Int) + (sz : Int))) rfl ?_) rfl
        refine rl_nil ?_
        refine k_tn ?_
        refine ⟨_, ?_, _, i + sz, pre ++ [(⟨⟨ao7, c7, _⟩, hel⟩ : ChunkU S w0 sz xs)], upds_eq _ _ ⟨rfl, rfl, rfl, rfl, trivial⟩, rfl, by omega, (by simp; omega), (fun h => (Nat.dvd_add_right (hdv h)).2 ⟨1, by simp⟩), (by obtain ⟨k, hk1, hk2⟩ := hch; obtain ⟨k, rfl⟩ : ∃ q, k = q + 1 := ⟨k - 1, by omega⟩; refine ⟨k, by omega, ?_⟩; rw [hk2, chunks_step (by intro h; have := congrArg List.length h; simp at this; omega)]; simp [hXS, List.drop_drop, List.append_assoc] <;> omega), hK, hB2, hB3, hKS, hR, hJ⟩
        omega
      · skip
        intro w10 hJx2
        refine rl (o_not rfl ?_) rfl
        refine rl_nil ?_
        refine cw_condT rfl ?_
        refine cw_ret ?_
        refine k_br ?_
        refine k_tr ?_
        refine k_tr ?_
        refine k_br ?_
        refine ret_raw (v := .tuple #[]) (res_ok (vs := []) rfl trivial) ⟨_, rfl, ?_⟩
        exact .inr ⟨_, trivial, hJx2⟩
    · skip
      refine cw_exit ?_
      refine k_te ?_
      refine k_te ?_
      refine k_bh ?_
      refine ret_rawN (v := .tuple #[]) (res_ok (vs := []) rfl trivial) ⟨_, rfl, ?_⟩
      obtain ⟨k, hk1, hk2⟩ := hch
      exact .inl ⟨pre, by rw [hk2, List.drop_of_length_le (by omega), chunks_nil]; simp, hJ⟩

theorem chunkU_seq {S : Nat → Prop} {w0 : World} (ao : Option Addr) (cp sz : Nat) (xs : List Int) (b2 b3 : Nat) (hsz : 1 ≤ sz ∧ sz ≤ 1000000) (hn : xs.length ≤ 1000000000) (hS2 : ¬ S b2) (hS3 : ¬ S b3)
    (hB2 : Box w0 b2 [.slice ao xs.length cp] 83) (hB3 : Box w0 b3 [.int .i64 (sz : Int)] 3) (hR : Rd (fun b => ¬ S b ∧ b < w0.heap.size) w0 1 (.slice ao xs.length cp) (xs.map encU)) :
    SeqStopsK Fence.wide 0 Tryd.prog 46 #[.pointer (some ⟨b2, 0, none⟩), .pointer (some ⟨b3, 0, none⟩)] (fun x : ChunkU S w0 sz xs => #[.slice x.1.ao x.1.xs.length x.1.c]) (fun A B => Kp S A B) (fun l => l.map (·.1.xs) = chunks sz (xs.length + 1) xs) (fun _ => True) (xs.length + 1) w0 := by
  intro l J Jx W hb hJ hJx hY h0
  have hE : Ext w0 W := Kp.of_below hb
  refine callsIn_wide.2 (Calls.mono (chunkU_it (S := S) (w0 := w0) l ao cp sz xs b2 b3 J Jx W hsz hn hS2 hS3 hB2.lt hB3.lt hJ hY h0 (Kp.ext hE) (hR.ext hE) (hB2.ext hE) (hB3.ext hE)) ?_)
  rintro e W' ⟨v, rfl, h⟩
  exact ⟨⟨v, rfl⟩, h⟩
end Go.Proofs.YtcmlklnelipacaaDoor

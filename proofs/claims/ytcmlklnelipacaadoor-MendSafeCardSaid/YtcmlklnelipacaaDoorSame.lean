import Derived.Laws.StructEq
import Derived.Test.YtcmlklnelipacaaDoorFrom
set_option linter.unusedVariables false
set_option linter.unusedSimpArgs false
set_option maxRecDepth 100000
namespace Go.Proofs.YtcmlklnelipacaaDoor
open Go.RowKit Plain
theorem fa41_0 : FieldAt Tryd.prog 41 0 0 := fun a w => by
  simp [Instr.fieldAt, Instr.sureAddr, fieldPlace, Tryd.runUnderlying41, Tryd.sizeOf3]
theorem fa41_1 : FieldAt Tryd.prog 41 1 1 := fun a w => by
  simp [Instr.fieldAt, Instr.sureAddr, fieldPlace, Tryd.runUnderlying41, Tryd.sizeOf3]
theorem fa41_2 : FieldAt Tryd.prog 41 2 2 := fun a w => by
  simp [Instr.fieldAt, Instr.sureAddr, fieldPlace, Tryd.runUnderlying41, Tryd.sizeOf3]
theorem tyA68 : TyA Tryd.prog 68 2 := ⟨Tryd.isAgg68, Tryd.sizeOf68⟩
theorem eqI (d : Nat) (a c : Int) (w : World) : (Op.equalIn (d + 1) 3 (.int .i64 a) (.int .i64 c)).run Tryd.prog w = .ok (decide (a = c)) w := by
  simp [Op.equalIn, run_underlying Tryd.underlying3]
  by_cases h : a = c <;> simp [h]
theorem partI (cs : Array Value) (o : Nat) (v : Value) (w : World) (h : cs[o]? = some v) : (part 3 cs o).run Tryd.prog w = .ok v w := by
  simp [part, Tryd.isAgg3, h, Result.andThen]
theorem eqP (a b c d : Int) (w : World) : (Op.equalIn 10000 68 (.agg #[.int .i64 a, .int .i64 b]) (.agg #[.int .i64 c, .int .i64 d])).run Tryd.prog w = .ok (decide (a = c) && decide (b = d)) w := by
  rw [show (10000 : Nat) = 9999 + 1 from rfl, run_equalIn_struct w 9999 68 _ _ (by kernel_rfl) (by kernel_rfl)]
  have hf : (Tryd.prog.fieldsOf 68).toList.map (fun f => (f.name, f.type, f.offset)) = [("Car", 3, 0), ("Peak", 3, 1)] := by kernel_rfl
  generalize (Tryd.prog.fieldsOf 68).toList = fs at hf
  obtain ⟨f0, fs, rfl, h0, hf⟩ := List.map_eq_cons_iff.1 hf
  obtain ⟨f1, fs, rfl, h1, hf⟩ := List.map_eq_cons_iff.1 hf
  obtain rfl := List.map_eq_nil_iff.1 hf
  simp only [Prod.mk.injEq] at h0 h1
  obtain ⟨n0, t0, o0⟩ := h0
  obtain ⟨n1, t1, o1⟩ := h1
  have e := fun x y => eqI 9998 x y w
  simp only [Op.eqFields, n0, n1, t0, t1, o0, o1]
  rw [if_pos (by decide), if_pos (by decide)]
  simp only [Sem.run_bind, partI _ _ _ w (show (#[Value.int .i64 a, .int .i64 b] : Array Value)[0]? = some (.int .i64 a) from rfl), partI _ _ _ w (show (#[Value.int .i64 c, .int .i64 d] : Array Value)[0]? = some (.int .i64 c) from rfl), partI _ _ _ w (show (#[Value.int .i64 a, .int .i64 b] : Array Value)[1]? = some (.int .i64 b) from rfl), partI _ _ _ w (show (#[Value.int .i64 c, .int .i64 d] : Array Value)[1]? = some (.int .i64 d) from rfl), Result.andThen]
  rw [show (9999 : Nat) = 9998 + 1 from rfl, e a c]
  by_cases h : a = c
  · simp only [h, decide_true, Bool.not_true, Bool.false_eq_true, if_false, Sem.run_bind, partI _ _ _ w (show (#[Value.int .i64 c, .int .i64 b] : Array Value)[1]? = some (.int .i64 b) from rfl), partI _ _ _ w (show (#[Value.int .i64 c, .int .i64 d] : Array Value)[1]? = some (.int .i64 d) from rfl), Result.andThen, e b d]
    by_cases h2 : b = d <;> simp [h2]
  · simp [h]
theorem o_neqP {ρ : Env} {w : World} {K : Value → World → Prop} {dst : Option Tmp} {ty : TypeId} {pos : String} {aft : Array Edge} {gd : Option (Nat × Bool)} {x y : Operand} {t' : TypeId} {a b c d : Int} (hx : ev ρ x = .agg #[.int .i64 a, .int .i64 b]) (hy : ev ρ y = .agg #[.int .i64 c, .int .i64 d]) (hk : K (.bool (decide (¬ (a = c ∧ b = d)))) w) :
    OpK Tryd.prog ⟨dst, .binOp .neq 68 x y t', ty, pos, aft, gd⟩ ρ w K := by
  have hg := run_eqGuard_agg w .neq 68 x y #[.int .i64 a, .int .i64 b] #[.int .i64 c, .int .i64 d] (show Tryd.prog.eqGuardType Tryd.prog.depth 68 = false by kernel_rfl)
  have h2 := run_neq_struct (P := Tryd.prog) w 68 #[.int .i64 a, .int .i64 b] #[.int .i64 c, .int .i64 d]
  rw [eqP] at h2
  simp only [OpK, execOp, hx, hy]
  simp only [Sem.run_bind, hg, h2, Result.andThen, OpU, Sem.run_pure]
  have e : (!(decide (a = c) && decide (b = d))) = decide (¬ (a = c ∧ b = d)) := by by_cases h1 : a = c <;> by_cases h3 : b = d <;> simp [h1, h3]
  rw [e]; exact hk
theorem same_ok {F G : Nat → Prop} (q1 m1 c1 q2 m2 c2 : Int) (a1 a2 : Option Addr) (k1 k2 : Nat) (ps qs : List Permit) (n1 : Nat) (n2 : Nat) (w : World) (hl_n2 : n2 = qs.length) (hl_n1 : n1 = ps.length) (hn : n1 ≤ 1000000) (hR : Rd F w 2 (.slice a1 n1 k1) (ps.map encP)) (hS : Rd G w 2 (.slice a2 n2 k2) (qs.map encP)) :
    Calls Tryd.prog 14 #[.agg #[.int .i64 (q1), .int .i64 (m1), .int .i64 (c1), .slice a1 n1 k1], .agg #[.int .i64 (q2), .int .i64 (m2), .int .i64 (c2), .slice a2 n2 k2]] w (Ret Non w fun v w' => v = .bool (decide (q1 = q2 ∧ m1 = m2 ∧ c1 = c2 ∧ ps = qs))) := by
  have hK := Kp.refl Non w
  subst hl_n1
  subst hl_n2
  replace hR := hR.old
  replace hS := hS.old
  refine calls_cw Tryd.func14 rfl (Nat.le_of_ble_eq_true rfl) ?_
  refine cw_reg rfl ?_
  refine rl (o_box (v := .agg #[.int .i64 (q1), .int .i64 (m1), .int .i64 (c1), .slice a1 ps.length k1]) rfl (fun b1 w2 hb3 hz4 hk5 hB6 => ?_)) rfl
  replace hB6 : Box w2 b1 [.int .i64 (q1), .int .i64 (m1), .int .i64 (c1), .slice a1 ps.length k1] 41 := hB6
  have hs_b1 := hK.size
  replace hK := hK.trans (Kp.ext hk5)
  replace hR := hR.ext hk5
  replace hS := hS.ext hk5
  refine rl (o_box (v := .agg #[.int .i64 (q2), .int .i64 (m2), .int .i64 (c2), .slice a2 qs.length k2]) rfl (fun b7 w8 hb9 hz10 hk11 hB12 => ?_)) rfl
  replace hB12 : Box w8 b7 [.int .i64 (q2), .int .i64 (m2), .int .i64 (c2), .slice a2 qs.length k2] 41 := hB12
  have hs_b7 := hK.size
  have hl_b1_b7 := hB6.lt
  replace hK := hK.trans (Kp.ext hk11)
  replace hB6 := hB6.ext hk11
  replace hR := hR.ext hk11
  replace hS := hS.ext hk11
  refine rl (o_assign (v := .bool (false)) rfl ?_) rfl
  refine rl_nil ?_
  refine cw_seq ?_
  refine cw_reg rfl ?_
  refine rl (o_field rfl fa41_0 ?_) rfl
  refine rl (o_loadB (v := .int .i64 (q1)) rfl hB6 tyS3 rfl ?_) rfl
  refine rl (o_field rfl fa41_0 ?_) rfl
  refine rl (o_loadB (v := .int .i64 (q2)) rfl hB12 tyS3 rfl ?_) rfl
  refine rl (o_neq rfl rfl ?_) rfl
  refine rl (o_move (v := .bool (decide (q1 ≠ q2))) rfl ?_) rfl
  by_cases h13 : q1 ≠ q2
  · skip
    refine rlo ?_ (want_f rfl (decide_eq_true h13) (by decide))
    refine rlo ?_ (want_f rfl (decide_eq_true h13) (by decide))
    refine rlo ?_ (want_f rfl (decide_eq_true h13) (by decide))
    refine rlo ?_ (want_f rfl (decide_eq_true h13) (by decide))
    refine rlo ?_ (want_f rfl (decide_eq_true h13) (by decide))
    refine rl (o_pickT (v := .bool (true)) rfl (decide_eq_true h13) rfl ?_) rfl
    refine rl (o_move (v := .bool (true)) rfl ?_) rfl
    refine rlo ?_ (want_f rfl (rfl) (by decide))
    refine rlo ?_ (want_f rfl (rfl) (by decide))
    refine rlo ?_ (want_f rfl (rfl) (by decide))
    refine rlo ?_ (want_f rfl (rfl) (by decide))
    refine rlo ?_ (want_f rfl (rfl) (by decide))
    refine rl (o_pickT (v := .bool (true)) rfl (rfl) rfl ?_) rfl
    refine rl (o_move (v := .bool (true)) rfl ?_) rfl
    refine rlo ?_ (want_f rfl (rfl) (by decide))
    refine rlo ?_ (want_f rfl (rfl) (by decide))
    refine rlo ?_ (want_f rfl (rfl) (by decide))
    refine rlo ?_ (want_f rfl (rfl) (by decide))
    refine rlo ?_ (want_f rfl (rfl) (by decide))
    refine rlo ?_ (want_f rfl (rfl) (by decide))
    refine rlo ?_ (want_f rfl (rfl) (by decide))
    refine rl (o_pickT (v := .bool (true)) rfl (rfl) rfl ?_) rfl
    refine rl_nil ?_
    refine cw_condT rfl ?_
    refine cw_reg rfl ?_
    refine rl (o_assign (v := .bool (false)) rfl ?_) rfl
    refine rl_nil ?_
    refine cw_ret ?_
    refine k_tr ?_
    refine ret_intro (v := .bool (false)) (res_ok (vs := [.bool (false)]) rfl ⟨rfl, trivial⟩) hK ?_
    have : ¬ (q1 = q2 ∧ m1 = m2 ∧ c1 = c2 ∧ ps = qs) := by
      rintro ⟨g1, g2, g3, g4⟩
      subst g4
      first | omega | (have hxy : x9 = y9 := Option.some.inj (hxe.symm.trans hye); subst hxy; simp_all)
    exact congrArg Value.bool (decide_eq_false this).symm
  · skip
    refine rl (o_field rfl fa41_1 ?_) (want_t rfl (decide_eq_false h13))
    refine rl (o_loadB (v := .int .i64 (m1)) rfl hB6 tyS3 rfl ?_) (want_t rfl (decide_eq_false h13))
    refine rl (o_field rfl fa41_1 ?_) (want_t rfl (decide_eq_false h13))
    refine rl (o_loadB (v := .int .i64 (m2)) rfl hB12 tyS3 rfl ?_) (want_t rfl (decide_eq_false h13))
    refine rl (o_neq rfl rfl ?_) (want_t rfl (decide_eq_false h13))
    refine rl (o_pickF (v := .bool (decide (m1 ≠ m2))) rfl (decide_eq_false h13) rfl ?_) rfl
    refine rl (o_move (v := .bool (decide (m1 ≠ m2))) rfl ?_) rfl
    by_cases h14 : m1 ≠ m2
    · skip
      refine rlo ?_ (want_f rfl (decide_eq_true h14) (by decide))
      refine rlo ?_ (want_f rfl (decide_eq_true h14) (by decide))
      refine rlo ?_ (want_f rfl (decide_eq_true h14) (by decide))
      refine rlo ?_ (want_f rfl (decide_eq_true h14) (by decide))
      refine rlo ?_ (want_f rfl (decide_eq_true h14) (by decide))
      refine rl (o_pickT (v := .bool (true)) rfl (decide_eq_true h14) rfl ?_) rfl
      refine rl (o_move (v := .bool (true)) rfl ?_) rfl
      refine rlo ?_ (want_f rfl (rfl) (by decide))
      refine rlo ?_ (want_f rfl (rfl) (by decide))
      refine rlo ?_ (want_f rfl (rfl) (by decide))
      refine rlo ?_ (want_f rfl (rfl) (by decide))
      refine rlo ?_ (want_f rfl (rfl) (by decide))
      refine rlo ?_ (want_f rfl (rfl) (by decide))
      refine rlo ?_ (want_f rfl (rfl) (by decide))
      refine rl (o_pickT (v := .bool (true)) rfl (rfl) rfl ?_) rfl
      refine rl_nil ?_
      refine cw_condT rfl ?_
      refine cw_reg rfl ?_
      refine rl (o_assign (v := .bool (false)) rfl ?_) rfl
      refine rl_nil ?_
      refine cw_ret ?_
      refine k_tr ?_
      refine ret_intro (v := .bool (false)) (res_ok (vs := [.bool (false)]) rfl ⟨rfl, trivial⟩) hK ?_
      have : ¬ (q1 = q2 ∧ m1 = m2 ∧ c1 = c2 ∧ ps = qs) := by
        rintro ⟨g1, g2, g3, g4⟩
        subst g4
        first | omega | (have hxy : x9 = y9 := Option.some.inj (hxe.symm.trans hye); subst hxy; simp_all)
      exact congrArg Value.bool (decide_eq_false this).symm
    · skip
      refine rl (o_field rfl fa41_2 ?_) (want_t rfl (decide_eq_false h14))
      refine rl (o_loadB (v := .int .i64 (c1)) rfl hB6 tyS3 rfl ?_) (want_t rfl (decide_eq_false h14))
      refine rl (o_field rfl fa41_2 ?_) (want_t rfl (decide_eq_false h14))
      refine rl (o_loadB (v := .int .i64 (c2)) rfl hB12 tyS3 rfl ?_) (want_t rfl (decide_eq_false h14))
      refine rl (o_neq rfl rfl ?_) (want_t rfl (decide_eq_false h14))
      refine rl (o_pickF (v := .bool (decide (c1 ≠ c2))) rfl (decide_eq_false h14) rfl ?_) rfl
      refine rl (o_move (v := .bool (decide (c1 ≠ c2))) rfl ?_) rfl
      by_cases h15 : c1 ≠ c2
      · skip
        refine rlo ?_ (want_f rfl (decide_eq_true h15) (by decide))
        refine rlo ?_ (want_f rfl (decide_eq_true h15) (by decide))
        refine rlo ?_ (want_f rfl (decide_eq_true h15) (by decide))
        refine rlo ?_ (want_f rfl (decide_eq_true h15) (by decide))
        refine rlo ?_ (want_f rfl (decide_eq_true h15) (by decide))
        refine rlo ?_ (want_f rfl (decide_eq_true h15) (by decide))
        refine rlo ?_ (want_f rfl (decide_eq_true h15) (by decide))
        refine rl (o_pickT (v := .bool (true)) rfl (decide_eq_true h15) rfl ?_) rfl
        refine rl_nil ?_
        refine cw_condT rfl ?_
        refine cw_reg rfl ?_
        refine rl (o_assign (v := .bool (false)) rfl ?_) rfl
        refine rl_nil ?_
        refine cw_ret ?_
        refine k_tr ?_
        refine ret_intro (v := .bool (false)) (res_ok (vs := [.bool (false)]) rfl ⟨rfl, trivial⟩) hK ?_
        have : ¬ (q1 = q2 ∧ m1 = m2 ∧ c1 = c2 ∧ ps = qs) := by
          rintro ⟨g1, g2, g3, g4⟩
          subst g4
          first | omega | (have hxy : x9 = y9 := Option.some.inj (hxe.symm.trans hye); subst hxy; simp_all)
        exact congrArg Value.bool (decide_eq_false this).symm
      · skip
        refine rl (o_field rfl fa41_3 ?_) (want_t rfl (decide_eq_false h15))
        refine rl (o_loadB (v := .slice a1 ps.length k1) rfl hB6 tyS39 rfl ?_) (want_t rfl (decide_eq_false h15))
        refine rl (o_len rfl Tryd.underlying39 ?_) (want_t rfl (decide_eq_false h15))
        refine rl (o_field rfl fa41_3 ?_) (want_t rfl (decide_eq_false h15))
        refine rl (o_loadB (v := .slice a2 qs.length k2) rfl hB12 tyS39 rfl ?_) (want_t rfl (decide_eq_false h15))
        refine rl (o_len rfl Tryd.underlying39 ?_) (want_t rfl (decide_eq_false h15))
        refine rl (o_neq rfl rfl ?_) (want_t rfl (decide_eq_false h15))
        refine rl (o_pickF (v := .bool (decide (((ps.length : Nat) : Int) ≠ ((qs.length : Nat) : Int)))) rfl (decide_eq_false h15) rfl ?_) rfl
        refine rl_nil ?_
        refine cw_if rfl (fun h16 => ?_) (fun h16 => ?_)
        · skip
          refine cw_reg rfl ?_
          refine rl (o_assign (v := .bool (false)) rfl ?_) rfl
          refine rl_nil ?_
          refine cw_ret ?_
          refine k_tr ?_
          refine ret_intro (v := .bool (false)) (res_ok (vs := [.bool (false)]) rfl ⟨rfl, trivial⟩) hK ?_
          have : ¬ (q1 = q2 ∧ m1 = m2 ∧ c1 = c2 ∧ ps = qs) := by
            rintro ⟨g1, g2, g3, g4⟩
            subst g4
            first | omega | (have hxy : x9 = y9 := Option.some.inj (hxe.symm.trans hye); subst hxy; simp_all)
          exact congrArg Value.bool (decide_eq_false this).symm
        · skip
          refine cw_skip ?_
          refine k_tn ?_
          refine cw_seq ?_
          refine cw_reg rfl ?_
          refine rl (o_assign (v := .int .i64 (0)) rfl ?_) rfl
          refine rl_nil ?_
          refine cw_block ?_
          refine cw_loop (fun mm ρ' w' => ∃ (ρ0 : Env) (i : Nat), (ρ' = upds ρ0 [(2, .pointer (some ⟨b1, 0, none⟩)), (3, .pointer (some ⟨b7, 0, none⟩)), (5, .int .i64 ((i : Int)))]) ∧ (mm = ps.length - i) ∧ (i ≤ ps.length) ∧ (ps.take i = qs.take i) ∧ (Kp Non w w') ∧ (Box w' b1 [.int .i64 (q1), .int .i64 (m1), .int .i64 (c1), .slice a1 ps.length k1] 41) ∧ (Box w' b7 [.int .i64 (q2), .int .i64 (m2), .int .i64 (c2), .slice a2 qs.length k2] 41) ∧ (Rd (fun b => b < w.heap.size) w' 2 (.slice a1 ps.length k1) (ps.map encP)) ∧ (Rd (fun b => b < w.heap.size) w' 2 (.slice a2 qs.length k2) (qs.map encP))) (ps.length - (0)) ?_ ?_
          · skip
            exact ⟨_, 0, upds_eq _ _ ⟨rfl, rfl, rfl, trivial⟩, rfl, Nat.zero_le _, rfl, hK, hB6, hB12, hR, hS⟩
          · rintro mm ρ1 w17 ⟨ρ0, i, rfl, rfl, hi, ht, hK, hB6, hB12, hR, hS⟩
            refine cw_seq ?_
            refine cw_reg rfl ?_
            refine rl (o_move (v := .int .i64 ((i : Int))) rfl ?_) rfl
            refine rl (o_field rfl fa41_3 ?_) rfl
            refine rl (o_loadB (v := .slice a1 ps.length k1) rfl hB6 tyS39 rfl ?_) rfl
            refine rl (o_len rfl Tryd.underlying39 ?_) rfl
            refine rl (o_lss rfl rfl ?_) rfl
            refine rl_nil ?_
            refine cw_if rfl (fun h18 => ?_) (fun h18 => ?_)
            · skip
              refine cw_skip ?_
              refine k_tn ?_
              refine cw_seq ?_
              refine cw_block ?_
              obtain ⟨b9, o9, x9, hao9, hxe, hA9⟩ := Rd.get hR i (by omega)
              obtain ⟨b8, o8, y9, hao8, hye, hA8⟩ := Rd.get hS i (by omega)
              have hl_b1_d1 := hB6.lt
              have hl_b7_d1 := hB12.lt
              refine cw_norm [(2, .pointer (some ⟨b1, 0, none⟩)), (3, .pointer (some ⟨b7, 0, none⟩)), (5, .int .i64 ((i : Int)))] ⟨rfl, rfl, rfl, trivial⟩ (fun ρr31 => ?_)
              refine cw_drawn [.val (.pointer (some ⟨b1, 3, none⟩)), .val (.slice a1 ps.length k1), .val (.int .i64 ((i : Int))), .val (.pointer (some ⟨b9, o9 + i * 2, none⟩)), .val (.agg #[.int .i64 (x9.car), .int .i64 (x9.peak)]), .val (.pointer (some ⟨b7, 3, none⟩)), .val (.slice a2 qs.length k2), .val (.int .i64 ((i : Int))), .val (.pointer (some ⟨b8, o8 + i * 2, none⟩)), .val (.agg #[.int .i64 (y9.car), .int .i64 (y9.peak)])] [[], [0], [], [0, 1, 2], [0, 1, 2, 3], [], [5], [], [5, 6, 7], [5, 6, 7, 8], [0, 1, 2, 3, 4, 5, 6, 7, 8, 9]] 10 mixed (by kernel_rfl) ⟨trivial, trivial, trivial, trivial, trivial, trivial, trivial, trivial, trivial, trivial, trivial⟩ ⟨⟨⟨⟨⟨⟨⟨⟨⟨⟨trivial, ?_⟩, ?_⟩, ?_⟩, ?_⟩, ?_⟩, ?_⟩, ?_⟩, ?_⟩, ?_⟩, ?_⟩ (fun w32 vs33 hE34 hkn35 => ?_)
              · refine obl_mk rfl (fun w32k vs hE hkn => ?_)
                replace hK := hK.trans (Kp.ext hE)
                replace hB6 := hB6.ext hE
                replace hB12 := hB12.ext hE
                replace hR := hR.ext hE
                replace hS := hS.ext hE
                replace hA9 := At.ext hA9 hE
                replace hA8 := At.ext hA8 hE
                refine obl_t rfl ?_
                refine opk_norm [(2, .pointer (some ⟨b1, 0, none⟩))] ⟨rfl, trivial⟩ (fun ρq => ?_)
                refine o_field rfl fa41_3 ?_
                exact ⟨Kp.refl _ _, rfl⟩
              · refine obl_mk rfl (fun w32k vs hE hkn => ?_)
                replace hK := hK.trans (Kp.ext hE)
                replace hB6 := hB6.ext hE
                replace hB12 := hB12.ext hE
                replace hR := hR.ext hE
                replace hS := hS.ext hE
                replace hA9 := At.ext hA9 hE
                replace hA8 := At.ext hA8 hE
                refine obl_t rfl ?_
                refine opk_norm [(41, .pointer (some ⟨b1, 3, none⟩))] ⟨rfl, trivial⟩ (fun ρq => ?_)
                refine o_loadB (v := .slice a1 ps.length k1) rfl hB6 tyS39 rfl ?_
                exact ⟨Kp.refl _ _, rfl⟩
              · refine obl_mk rfl (fun w32k vs hE hkn => ?_)
                replace hK := hK.trans (Kp.ext hE)
                replace hB6 := hB6.ext hE
                replace hB12 := hB12.ext hE
                replace hR := hR.ext hE
                replace hS := hS.ext hE
                replace hA9 := At.ext hA9 hE
                replace hA8 := At.ext hA8 hE
                refine obl_t rfl ?_
                refine opk_norm [(5, .int .i64 ((i : Int)))] ⟨rfl, trivial⟩ (fun ρq => ?_)
                refine o_move (v := .int .i64 ((i : Int))) rfl ?_
                exact ⟨Kp.refl _ _, rfl⟩
              · refine obl_mk rfl (fun w32k vs hE hkn => ?_)
                replace hK := hK.trans (Kp.ext hE)
                replace hB6 := hB6.ext hE
                replace hB12 := hB12.ext hE
                replace hR := hR.ext hE
                replace hS := hS.ext hE
                replace hA9 := At.ext hA9 hE
                replace hA8 := At.ext hA8 hE
                refine obl_t rfl ?_
                refine opk_norm [(42, .slice a1 ps.length k1), (43, .int .i64 ((i : Int)))] ⟨rfl, rfl, trivial⟩ (fun ρq => ?_)
                refine o_idxAt i rfl rfl Tryd.underlying39 Tryd.sizeOf68 hao9 (by omega) (by omega) ?_
                exact ⟨Kp.refl _ _, rfl⟩
              · refine obl_mk rfl (fun w32k vs hE hkn => ?_)
                replace hK := hK.trans (Kp.ext hE)
                replace hB6 := hB6.ext hE
                replace hB12 := hB12.ext hE
                replace hR := hR.ext hE
                replace hS := hS.ext hE
                replace hA9 := At.ext hA9 hE
                replace hA8 := At.ext hA8 hE
                refine obl_t rfl ?_
                refine opk_norm [(44, .pointer (some ⟨b9, o9 + i * 2, none⟩))] ⟨rfl, trivial⟩ (fun ρq => ?_)
                refine o_loadA (cs := [.int .i64 (x9.car), .int .i64 (x9.peak)]) rfl tyA68 rfl hA9 ?_
                exact ⟨Kp.refl _ _, rfl⟩
              · refine obl_mk rfl (fun w32k vs hE hkn => ?_)
                replace hK := hK.trans (Kp.ext hE)
                replace hB6 := hB6.ext hE
                replace hB12 := hB12.ext hE
                replace hR := hR.ext hE
                replace hS := hS.ext hE
                replace hA9 := At.ext hA9 hE
                replace hA8 := At.ext hA8 hE
                refine obl_t rfl ?_
                refine opk_norm [(3, .pointer (some ⟨b7, 0, none⟩))] ⟨rfl, trivial⟩ (fun ρq => ?_)
                refine o_field rfl fa41_3 ?_
                exact ⟨Kp.refl _ _, rfl⟩
              · refine obl_mk rfl (fun w32k vs hE hkn => ?_)
                replace hK := hK.trans (Kp.ext hE)
                replace hB6 := hB6.ext hE
                replace hB12 := hB12.ext hE
                replace hR := hR.ext hE
                replace hS := hS.ext hE
                replace hA9 := At.ext hA9 hE
                replace hA8 := At.ext hA8 hE
                refine obl_t rfl ?_
                refine opk_norm [(46, .pointer (some ⟨b7, 3, none⟩))] ⟨rfl, trivial⟩ (fun ρq => ?_)
                refine o_loadB (v := .slice a2 qs.length k2) rfl hB12 tyS39 rfl ?_
                exact ⟨Kp.refl _ _, rfl⟩
              · refine obl_mk rfl (fun w32k vs hE hkn => ?_)
                replace hK := hK.trans (Kp.ext hE)
                replace hB6 := hB6.ext hE
                replace hB12 := hB12.ext hE
                replace hR := hR.ext hE
                replace hS := hS.ext hE
                replace hA9 := At.ext hA9 hE
                replace hA8 := At.ext hA8 hE
                refine obl_t rfl ?_
                refine opk_norm [(5, .int .i64 ((i : Int)))] ⟨rfl, trivial⟩ (fun ρq => ?_)
                refine o_move (v := .int .i64 ((i : Int))) rfl ?_
                exact ⟨Kp.refl _ _, rfl⟩
              · refine obl_mk rfl (fun w32k vs hE hkn => ?_)
                replace hK := hK.trans (Kp.ext hE)
                replace hB6 := hB6.ext hE
                replace hB12 := hB12.ext hE
                replace hR := hR.ext hE
                replace hS := hS.ext hE
                replace hA9 := At.ext hA9 hE
                replace hA8 := At.ext hA8 hE
                refine obl_t rfl ?_
                refine opk_norm [(47, .slice a2 qs.length k2), (48, .int .i64 ((i : Int)))] ⟨rfl, rfl, trivial⟩ (fun ρq => ?_)
                refine o_idxAt i rfl rfl Tryd.underlying39 Tryd.sizeOf68 hao8 (by omega) (by omega) ?_
                exact ⟨Kp.refl _ _, rfl⟩
              · refine obl_mk rfl (fun w32k vs hE hkn => ?_)
                replace hK := hK.trans (Kp.ext hE)
                replace hB6 := hB6.ext hE
                replace hB12 := hB12.ext hE
                replace hR := hR.ext hE
                replace hS := hS.ext hE
                replace hA9 := At.ext hA9 hE
                replace hA8 := At.ext hA8 hE
                refine obl_t rfl ?_
                refine opk_norm [(49, .pointer (some ⟨b8, o8 + i * 2, none⟩))] ⟨rfl, trivial⟩ (fun ρq => ?_)
                refine o_loadA (cs := [.int .i64 (y9.car), .int .i64 (y9.peak)]) rfl tyA68 rfl hA8 ?_
                exact ⟨Kp.refl _ _, rfl⟩
              replace hK := hK.trans (Kp.ext hE34)
              replace hB6 := hB6.ext hE34
              replace hB12 := hB12.ext hE34
              replace hR := hR.ext hE34
              replace hS := hS.ext hE34
              replace hA9 := At.ext hA9 hE34
              replace hA8 := At.ext hA8 hE34
              refine rl_norm [(2, .pointer (some ⟨b1, 0, none⟩)), (3, .pointer (some ⟨b7, 0, none⟩)), (5, .int .i64 ((i : Int))), (45, .agg #[.int .i64 (x9.car), .int .i64 (x9.peak)]), (50, .agg #[.int .i64 (y9.car), .int .i64 (y9.peak)])] ⟨rfl, rfl, rfl, rfl, rfl, trivial⟩ (fun ρr31q => ?_)
              refine rl (o_neqP rfl rfl ?_) rfl
              refine rl_nil ?_
              refine cw_if rfl (fun h48 => ?_) (fun h48 => ?_)
              · skip
                refine cw_reg rfl ?_
                refine rl (o_assign (v := .bool (false)) rfl ?_) rfl
                refine rl_nil ?_
                refine cw_ret ?_
                refine k_br ?_
                refine k_tr ?_
                refine k_tr ?_
                refine k_br ?_
                refine k_tr ?_
                refine ret_intro (v := .bool (false)) (res_ok (vs := [.bool (false)]) rfl ⟨rfl, trivial⟩) hK ?_
                have : ¬ (q1 = q2 ∧ m1 = m2 ∧ c1 = c2 ∧ ps = qs) := by
                  rintro ⟨g1, g2, g3, g4⟩
                  subst g4
                  first | omega | (have hxy : x9 = y9 := Option.some.inj (hxe.symm.trans hye); subst hxy; simp_all)
                exact congrArg Value.bool (decide_eq_false this).symm
              · skip
                refine cw_skip ?_
                refine k_bn ?_
                refine k_tn ?_
                refine cw_region rfl ?_
                refine rl (o_move (v := .int .i64 ((i : Int))) rfl ?_) rfl
                refine rl (o_add64 (a := (i : Int)) (b := 1) rfl rfl (by omega) (by omega) ?_) rfl
                refine rl (o_assign (v := .int .i64 ((i : Int) + 1)) rfl ?_) rfl
                refine rl_nil ?_
                refine k_tn ?_
                refine ⟨_, ?_, _, i + 1, upds_eq _ _ ⟨rfl, rfl, rfl, trivial⟩, rfl, by omega, (by rw [take_snoc hxe, take_snoc hye, ht]; congr 2; cases x9; cases y9; simp_all), hK, hB6, hB12, hR, hS⟩
                omega
            · skip
              refine cw_exit ?_
              refine k_te ?_
              refine k_te ?_
              refine k_bh ?_
              refine k_tn ?_
              refine cw_reg rfl ?_
              refine rl (o_assign (v := .bool (true)) rfl ?_) rfl
              refine rl_nil ?_
              refine cw_ret ?_
              refine ret_intro (v := .bool (true)) (res_ok (vs := [.bool (true)]) rfl ⟨rfl, trivial⟩) hK ?_
              have h9 : ps = qs := by rw [show i = ps.length by omega, List.take_length] at ht; rw [ht]; exact List.take_of_length_le (by omega)
              have : q1 = q2 ∧ m1 = m2 ∧ c1 = c2 ∧ ps = qs := ⟨by omega, by omega, by omega, h9⟩
              exact congrArg Value.bool (decide_eq_true this).symm
end Go.Proofs.YtcmlklnelipacaaDoor

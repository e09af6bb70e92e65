import Derived.Test.YtcmlklnelipacaaDoorAgain
import Derived.Test.YtcmlklnelipacaaDoorSame
set_option linter.unusedVariables false
set_option linter.unusedSimpArgs false
set_option maxRecDepth 100000
namespace Go.Proofs.YtcmlklnelipacaaDoor
open Go.RowKit Plain
theorem bt56 : StructTy Tryd.prog 56 [.int .i64 (0), .int .i64 (0)] #[(0, 1), (1, 1)] := ⟨Tryd.zeroValue56, ⟨_, Tryd.underlying56, fun w => by simp [Tryd.sizeOf3]⟩⟩
theorem elt56 : Elt Tryd.prog 56 (.agg #[.int .i64 (0), .int .i64 (0)]) 2 16 := elt_mk (by kernel_rfl) rfl (by decide)
theorem jput_len8 (l : Ledger) (sq : Int) : (jput crcOf l sq).length ≤ 8 * l.l.length + 60 := by
  have e : jput crcOf l sq = sealB crcOf (join (jrows l sq)) := rfl
  rw [e]
  simp only [sealB, List.length_append, leB_length, jrows, join, List.flatMap_cons, List.flatMap_nil, List.length_take, List.length_nil]
  have h1 : (pbytes l.l).length ≤ 8 * l.l.length := by rw [pbytes_len]; omega
  first | omega | (simp only [List.length_append, leB_length]; omega)
theorem permits_ok {b m c : Int} {ps : List Permit} (h : check ⟨b, m, c, ps⟩ = true) : (∀ p ∈ ps, 0 ≤ p.car ∧ p.car < 4294967296 ∧ 0 ≤ p.peak ∧ p.peak < 4294967296) ∧ (0 ≤ b ∧ b < 4294967296) ∧ (0 ≤ m ∧ m < 4294967296) := by
  obtain ⟨hok, hb, hm, hc, hs⟩ := check_parts h
  have h1 := power_iff.1 hb
  have h2 := power_iff.1 hm
  refine ⟨fun p hp => ?_, by dsimp at h1; omega, by dsimp at h2; omega⟩
  have := okPermits_all _ _ hok p hp
  have h3 := known_iff.1 this.1
  have h4 := power_iff.1 this.2
  omega
theorem eqPm (a b c d : Int) (w : World) : (Op.equalIn 10000 57 (.agg #[.int .i64 a, .int .i64 b]) (.agg #[.int .i64 c, .int .i64 d])).run Tryd.prog w = .ok (decide (a = c) && decide (b = d)) w := by
  rw [show (10000 : Nat) = 9999 + 1 from rfl, run_equalIn_struct w 9999 57 _ _ (by kernel_rfl) (by kernel_rfl)]
  have hf : (Tryd.prog.fieldsOf 57).toList.map (fun f => (f.name, f.type, f.offset)) = [("Car", 3, 0), ("Peak", 3, 1)] := by kernel_rfl
  generalize (Tryd.prog.fieldsOf 57).toList = fs at hf
  obtain ⟨f0, fs, rfl, h0, hf⟩ := List.map_eq_cons_iff.1 hf
  obtain ⟨f1, fs, rfl, h1, hf⟩ := List.map_eq_cons_iff.1 hf
  obtain rfl := List.map_eq_nil_iff.1 hf
  simp only [Prod.mk.injEq] at h0 h1
  obtain ⟨n0, t0, o0⟩ := h0
  obtain ⟨n1, t1, o1⟩ := h1
  have e := fun x y => eqI 9998 x y w
  simp only [Op.eqFields, n0, n1, t0, t1, o0, o1]
  rw [if_pos (by decide), if_pos (by decide)]
  simp only [Sem.run_bind, partI _ _ _ w (show (#[Value.int .i64 a, .int .i64 b] : Array Value)[0]? = some (.int .i64 a) from rfl), partI _ _ _ w (show (#[Value.int .i64 c, .int .i64 d] : Array Value)[0]? = some (.int .i64 c) from rfl), partI _ _ _ w (show (#[Value.int .i64 a, .int .i64 b] : Array Value)[1]? = some (.int .i64 b) from rfl), partI _ _ _ w (show (#[Value.int .i64 c, .int .i64 d] : Array Value)[1]? = some (.int .i64 d) from rfl), Result.andThen]
  rw [show (9999 : Nat) = 9998 + 1 from rfl, e a c]
  by_cases h : a = c
  · simp only [h, decide_true, Bool.not_true, Bool.false_eq_true, if_false, Sem.run_bind, partI _ _ _ w (show (#[Value.int .i64 c, .int .i64 b] : Array Value)[1]? = some (.int .i64 b) from rfl), partI _ _ _ w (show (#[Value.int .i64 c, .int .i64 d] : Array Value)[1]? = some (.int .i64 d) from rfl), Result.andThen, e b d]
    by_cases h2 : b = d <;> simp [h2]
  · simp [h]
theorem o_eqPm {ρ : Env} {w : World} {K : Value → World → Prop} {dst : Option Tmp} {ty : TypeId} {pos : String} {aft : Array Edge} {gd : Option (Nat × Bool)} {x y : Operand} {t' : TypeId} {a b : Int} (hx : ev ρ x = .agg #[.int .i64 a, .int .i64 b]) (hy : ev ρ y = .agg #[.int .i64 a, .int .i64 b]) (hk : K (.bool true) w) :
    OpK Tryd.prog ⟨dst, .binOp .eql 57 x y t', ty, pos, aft, gd⟩ ρ w K := by
  have hg := run_eqGuard_agg w .eql 57 x y #[.int .i64 a, .int .i64 b] #[.int .i64 a, .int .i64 b] (show Tryd.prog.eqGuardType Tryd.prog.depth 57 = false by kernel_rfl)
  have h2 := run_eql_struct (P := Tryd.prog) w 57 #[.int .i64 a, .int .i64 b] #[.int .i64 a, .int .i64 b]
  rw [eqPm] at h2
  simp only [OpK, execOp, hx, hy]
  simp only [Sem.run_bind, hg, h2, Result.andThen, OpU, Sem.run_pure]
  simpa using hk
theorem fst_step {ms : List Permit} {k : Nat} {x7 : Permit} {fs fs' : Bool} {q : Int} (hx : ms[k]? = some x7) (h : fs = true ↔ ∀ k0 m0, k0 < k → ms[k0]? = some m0 → m0.car ≠ q) (hf : fs' = (fs && decide (x7.car ≠ q))) : fs' = true ↔ ∀ k0 m0, k0 < k + 1 → ms[k0]? = some m0 → m0.car ≠ q := by
  subst hf
  rw [Bool.and_eq_true, decide_eq_true_eq, h]
  constructor
  · rintro ⟨h1, h2⟩ k0 m0 hk hm
    by_cases e : k0 = k
    · subst e; rw [hx] at hm; cases hm; exact h2
    · exact h1 k0 m0 (by omega) hm
  · intro h1
    exact ⟨fun k0 m0 hk hm => h1 k0 m0 (by omega) hm, h1 k x7 (by omega) hx⟩
theorem stp_step {l : List Int} {q : Nat} {y c : Int} {s s' : Bool} (hy : l[q]? = some y) (h : s = (l.take q).contains c) (hs : s' = (s || decide (y = c))) : s' = (l.take (q + 1)).contains c := by
  subst hs; subst h
  rw [take_snoc hy, Bool.eq_iff_iff]
  simp [List.contains_iff_mem]
  constructor
  · rintro (h | h)
    · exact .inl h
    · exact .inr h.symm
  · rintro (h | h)
    · exact .inl h
    · exact .inr h.symm
theorem ne_of_has {i : Prop} [Decidable i] {a b : Bool} (h : (i ∧ b = false) ∨ (¬ i ∧ b = true)) (e : a = b) : (decide i == a) = false := by
  subst e
  rcases h with ⟨h1, h2⟩ | ⟨h1, h2⟩ <;> simp [h1, h2]
set_option maxHeartbeats 8000000 in
theorem awake17_ok  (w : World) (hT : Tab w) :
    Calls Tryd.prog 17 #[] w (Ret Non w fun v w' => v = .bool true) := by
  have hK := Kp.refl Non w
  have h00 := hT.1
  have hj0 : jload crcOf ⟨[], [], 0, [], false⟩ = (.zero, 0) := jload_short isB_nil isB_nil (by decide) (by decide)
  have hag : agN Ledger.zero.l (min (max 10 0) 1048576) [(⟨1, 6⟩ : Permit), ⟨2, 5⟩] 2 = ([⟨1, 6⟩], [2]) := by decide
  refine calls_cw Tryd.func17 rfl (Nat.le_of_ble_eq_true rfl) ?_
  refine cw_seq ?_
  refine cw_region rfl ?_
  refine rl (o_assign (v := .bool (false)) rfl ?_) rfl
  refine rl_nil ?_
  refine k_tn ?_
  refine cw_norm [] trivial (fun ρn1 => ?_)
  refine cw_seq ?_
  refine cw_region rfl ?_
  refine rl (o_call (from_ok (F0 := Non) (F1 := Non) none none 0 0 [] [] _ _ _ rfl rfl (by decide) (by decide) (Rd.nil _ _) (Rd.nil _ _)) Tryd.call7 (fun v2 w3 hk4 hv5 => ?_)) rfl
  have hs_w3 := hK.size
  have hsk_w3 := hk4.size
  obtain ⟨aaf, abf, caf, cbf, rfl, hF0f, hF1f⟩ := hv5
  replace hK := hK.trans (Kp.ext hk4)
  replace hT := hT.ext hk4
  replace hF0f := hF0f.mono (G := fun b => w.heap.size ≤ b ∧ b < w3.heap.size) (fun b hb h => ⟨h, hb⟩)
  replace hF1f := hF1f.mono (G := fun b => w.heap.size ≤ b ∧ b < w3.heap.size) (fun b hb h => ⟨h, hb⟩)
  have hTr_w3 := Kp.refl (fun _ => True) w3
  refine rl (o_build (cs := [.int .i64 (1), .int .i64 (6)]) bt56 rfl ?_) rfl
  refine rl (o_build (cs := [.int .i64 (2), .int .i64 (5)]) bt56 rfl ?_) rfl
  refine rl (o_buildSlice (vs := [.agg #[.int .i64 (1), .int .i64 (6)], .agg #[.int .i64 (2), .int .i64 (5)]]) (n := 2) rfl Tryd.underlying49 elt56 rfl rfl (Nat.le_of_ble_eq_true rfl) (fun b6 w7 hb8 hz9 hk10 hB11 => ?_)) rfl
  replace hB11 : Box w7 b6 [.int .i64 (1), .int .i64 (6), .int .i64 (2), .int .i64 (5)] 56 := hB11
  have hs_b6 := hK.size
  have ht_hTr_w3_b6 := hTr_w3.size
  replace hK := hK.trans (Kp.ext hk10)
  replace hT := hT.ext hk10
  replace hF0f := hF0f.ext hk10
  replace hF1f := hF1f.ext hk10
  replace hTr_w3 := hTr_w3.trans (Kp.ext hk10)
  refine rl (o_call (again_ok (Fw := Non) _ _ none _ _ 0 [] [] [] 0 false _ _ [(⟨1, 6⟩ : Permit), ⟨2, 5⟩] 10 .zero 0 _ _ _ _ _ rfl rfl rfl rfl (by decide) (by decide) isB_nil isB_nil hj0 (by decide) (by decide) (by intro m hm; simp at hm; rcases hm with rfl | rfl <;> decide) hT hF0f hF1f (Rd.box (css := [(⟨1, 6⟩ : Permit), ⟨2, 5⟩].map encP) hB11 rfl (by simp [encP]))) Tryd.call19 (fun v12 w13 hk14 hv15 => ?_)) rfl
  have hl_b6_w13 := hB11.lt
  have hs_w13 := hK.size
  have hsk_w13 := hk14.size
  obtain ⟨nO, nS, aoO, aoS, cO, cS, rfl, hnO, hnS, hRO, hRS⟩ := hv15
  replace hK := hK.trans (Kp.ext hk14)
  replace hB11 := hB11.ext hk14
  replace hT := hT.ext hk14
  replace hF0f := hF0f.ext hk14
  replace hF1f := hF1f.ext hk14
  replace hTr_w3 := hTr_w3.trans (Kp.ext hk14)
  replace hnO : nO = 1 := by rw [hnO]; exact congrArg (fun a => a.1.length) hag
  replace hnS : nS = 1 := by rw [hnS]; exact congrArg (fun a => a.2.length) hag
  subst hnO
  subst hnS
  rw [show agN Ledger.zero.l (min (max 10 0) 1048576) [(⟨1, 6⟩ : Permit), ⟨2, 5⟩] ([(⟨1, 6⟩ : Permit), ⟨2, 5⟩]).length = ([⟨1, 6⟩], [2]) from hag] at hRO hRS
  replace hRO := hRO.mono (G := fun b => w7.heap.size ≤ b ∧ b < w13.heap.size) (fun b hb h => ⟨h, hb⟩)
  replace hRS := hRS.mono (G := fun b => w7.heap.size ≤ b ∧ b < w13.heap.size) (fun b hb h => ⟨h, hb⟩)
  have hTr_w13 := Kp.refl (fun _ => True) w13
  refine rl (o_move (v := .tuple #[.agg #[.int .i64 (10), .int .i64 (0), .int .i64 (0), .slice aoO 1 cO], .slice aoS 1 cS]) rfl ?_) rfl
  refine rl (o_extract (vs := [.agg #[.int .i64 (10), .int .i64 (0), .int .i64 (0), .slice aoO 1 cO], .slice aoS 1 cS]) (v := .agg #[.int .i64 (10), .int .i64 (0), .int .i64 (0), .slice aoO 1 cO]) rfl rfl ?_) rfl
  refine rl (o_extract (vs := [.agg #[.int .i64 (10), .int .i64 (0), .int .i64 (0), .slice aoO 1 cO], .slice aoS 1 cS]) (v := .slice aoS 1 cS) rfl rfl ?_) rfl
  refine rl (o_alloc Tryd.zeroValue32 (fun b16 w17 hb18 hz19 hk20 hB21 => ?_)) rfl
  replace hB21 : Box w17 b16 [.int .i64 (0), .int .i64 (0), .int .i64 (0), .slice none 0 0] 32 := hB21
  have hs_b16 := hK.size
  have hl_b6_b16 := hB11.lt
  have ht_hTr_w3_b16 := hTr_w3.size
  have ht_hTr_w13_b16 := hTr_w13.size
  replace hK := hK.trans (Kp.ext hk20)
  replace hB11 := hB11.ext hk20
  replace hT := hT.ext hk20
  replace hF0f := hF0f.ext hk20
  replace hF1f := hF1f.ext hk20
  replace hTr_w3 := hTr_w3.trans (Kp.ext hk20)
  replace hRO := hRO.ext hk20
  replace hRS := hRS.ext hk20
  replace hTr_w13 := hTr_w13.trans (Kp.ext hk20)
  refine rl0 (o_storeA (vs := [.int .i64 (10), .int .i64 (0), .int .i64 (0), .slice aoO 1 cO]) rfl rfl hB21 tyA32 rfl rfl (Nat.le_of_ble_eq_true rfl) (fun w22 hk23 hz24 hB25 => ?_)) rfl
  replace hB25 : Box w22 b16 [.int .i64 (10), .int .i64 (0), .int .i64 (0), .slice aoO 1 cO] 32 := hB25
  replace hK := hK.later hk23 (fun i hi hS => by have h1 : i = b16 := hS; omega)
  replace hB11 := hB11.kp hk23 (by show ¬ b6 = b16; omega)
  replace hT := hT.kp hk23 (fun h => by have h2 : (0 : Nat) = b16 := h; omega)
  replace hF0f := hF0f.kp hk23 (fun i _ hF hS => by have h1 : w.heap.size ≤ i ∧ i < w3.heap.size := hF; have h2 : i = b16 := hS; omega)
  replace hF1f := hF1f.kp hk23 (fun i _ hF hS => by have h1 : w.heap.size ≤ i ∧ i < w3.heap.size := hF; have h2 : i = b16 := hS; omega)
  replace hTr_w3 := hTr_w3.trans (hk23.mono (fun _ _ _ => trivial))
  replace hRO := hRO.kp hk23 (fun i _ hF hS => by have h1 : w7.heap.size ≤ i ∧ i < w13.heap.size := hF; have h2 : i = b16 := hS; omega)
  replace hRS := hRS.kp hk23 (fun i _ hF hS => by have h1 : w7.heap.size ≤ i ∧ i < w13.heap.size := hF; have h2 : i = b16 := hS; omega)
  replace hTr_w13 := hTr_w13.trans (hk23.mono (fun _ _ _ => trivial))
  replace hB21 := hB25
  refine rl (o_assign (v := .slice aoS 1 cS) rfl ?_) rfl
  refine rl_nil ?_
  refine k_tn ?_
  refine cw_norm [(1, .pointer (some ⟨b16, 0, none⟩)), (2, .slice aoS 1 cS)] ⟨rfl, rfl, trivial⟩ (fun ρn26 => ?_)
  obtain ⟨b9, o9, x9, hao9, hxe, hA9, hlt_b9, hF_b9⟩ := Rd.getF hRO 0 (by decide)
  replace hF_b9 : w7.heap.size ≤ b9 ∧ b9 < w13.heap.size := hF_b9
  obtain rfl : x9 = ⟨1, 6⟩ := (Option.some.inj hxe).symm
  obtain ⟨b8, o8, y9, hao8, hye, hA8, hlt_b8, hF_b8⟩ := Rd.getF hRS 0 (by decide)
  replace hF_b8 : w7.heap.size ≤ b8 ∧ b8 < w13.heap.size := hF_b8
  obtain rfl : y9 = 2 := (Option.some.inj hye).symm
  refine cw_reg rfl ?_
  refine rl (o_field rfl fa32_3 ?_) rfl
  refine rl (o_loadB (v := .slice aoO 1 cO) rfl hB21 tyS30 rfl ?_) rfl
  refine rl (o_len rfl Tryd.underlying30 ?_) rfl
  refine rl (o_eql rfl rfl ?_) rfl
  refine rl (o_move (v := .bool (true)) rfl ?_) rfl
  refine rl (o_field rfl fa32_3 ?_) (want_t rfl (rfl))
  refine rl (o_loadB (v := .slice aoO 1 cO) rfl hB21 tyS30 rfl ?_) (want_t rfl (rfl))
  refine rl (o_idxAt 0 rfl rfl Tryd.underlying30 Tryd.sizeOf57 hao9 (by omega) (by omega) ?_) (want_t rfl (rfl))
  refine rl (o_loadA (cs := [.int .i64 (1), .int .i64 (6)]) rfl tyA57 rfl hA9 ?_) (want_t rfl (rfl))
  refine rl (o_build (cs := [.int .i64 (1), .int .i64 (6)]) bt57 rfl ?_) (want_t rfl (rfl))
  refine rl (o_eqPm rfl rfl ?_) (want_t rfl (rfl))
  refine rl (o_pickT (v := .bool (true)) rfl (rfl) rfl ?_) rfl
  refine rl (o_move (v := .bool (true)) rfl ?_) rfl
  refine rl (o_move (v := .slice aoS 1 cS) rfl ?_) (want_t rfl (rfl))
  refine rl (o_len rfl Tryd.underlying51 ?_) (want_t rfl (rfl))
  refine rl (o_eql rfl rfl ?_) (want_t rfl (rfl))
  refine rl (o_pickT (v := .bool (true)) rfl (rfl) rfl ?_) rfl
  refine rl (o_move (v := .bool (true)) rfl ?_) rfl
  refine rl (o_move (v := .slice aoS 1 cS) rfl ?_) (want_t rfl (rfl))
  refine rl (o_idxAt 0 rfl rfl Tryd.underlying51 Tryd.sizeOf3 hao8 (by omega) (by omega) ?_) (want_t rfl (rfl))
  refine rl (o_load (v := .int .i64 (2)) rfl tyS3 (hA8 0 _ rfl) ?_) (want_t rfl (rfl))
  refine rl (o_eql rfl rfl ?_) (want_t rfl (rfl))
  refine rl (o_pickT (v := .bool (true)) rfl (rfl) rfl ?_) rfl
  refine rl (o_move (v := .bool (true)) rfl ?_) rfl
  refine rl (o_field rfl fa32_0 ?_) (want_t rfl (rfl))
  refine rl (o_loadB (v := .int .i64 (10)) rfl hB21 tyS3 rfl ?_) (want_t rfl (rfl))
  refine rl (o_eql rfl rfl ?_) (want_t rfl (rfl))
  refine rl (o_pickT (v := .bool (true)) rfl (rfl) rfl ?_) rfl
  refine rl (o_assign (v := .bool (true)) rfl ?_) rfl
  refine rl_nil ?_
  refine cw_ret ?_
  refine ret_intro (v := .bool (true)) (res_ok (vs := [.bool (true)]) rfl ⟨rfl, trivial⟩) hK ?_
  exact rfl

set_option maxHeartbeats 16000000 in
theorem msafe_ok {F G : Nat → Prop} (b m c : Int) (ao : Option Addr) (cp : Nat) (ps : List Permit) (tn : Int) (am : Option Addr) (cm : Nat) (ms : List Permit) (bg : Int) (n2 : Nat) (n3 : Nat) (w : World) (hl_n3 : n3 = ms.length) (hl_n2 : n2 = ps.length) (hpl : n2 ≤ 9223372036854775807) (hmr : ∀ m ∈ ms, (-9223372036854775808 ≤ m.car ∧ m.car ≤ 9223372036854775807) ∧ -9223372036854775808 ≤ m.peak ∧ m.peak ≤ 9223372036854775807) (hbg : -9223372036854775808 ≤ bg ∧ bg ≤ 9223372036854775807) (hT : Tab w) (hR : Rd F w 2 (.slice ao n2 cp) (ps.map encP)) (hMs : Rd G w 2 (.slice am n3 cm) (ms.map encP)) :
    Calls Tryd.prog 5 #[.agg #[.int .i64 (b), .int .i64 (m), .int .i64 (c), .slice ao n2 cp], .int .i64 (tn), .slice am n3 cm, .int .i64 (bg)] w (Ret Non w fun v w' => v = .bool true) := by
  have hK := Kp.refl Non w
  subst hl_n2
  subst hl_n3
  replace hR := hR.old
  replace hMs := hMs.old
  have h00 := hT.1
  refine calls_cw Tryd.func5 rfl (Nat.le_of_ble_eq_true rfl) ?_
  refine cw_seq ?_
  refine cw_region rfl ?_
  refine rl (o_box (v := .agg #[.int .i64 (b), .int .i64 (m), .int .i64 (c), .slice ao ps.length cp]) rfl (fun b1 w2 hb3 hz4 hk5 hB6 => ?_)) rfl
  replace hB6 : Box w2 b1 [.int .i64 (b), .int .i64 (m), .int .i64 (c), .slice ao ps.length cp] 32 := hB6
  have hs_b1 := hK.size
  replace hK := hK.trans (Kp.ext hk5)
  replace hT := hT.ext hk5
  replace hR := hR.ext hk5
  replace hMs := hMs.ext hk5
  refine rl (o_assign (v := .bool (false)) rfl ?_) rfl
  refine rl_nil ?_
  refine k_tn ?_
  refine cw_norm [(1, .int .i64 (tn)), (2, .slice am ms.length cm), (3, .int .i64 (bg)), (4, .pointer (some ⟨b1, 0, none⟩))] ⟨rfl, rfl, rfl, rfl, trivial⟩ (fun ρn7 => ?_)
  refine cw_seq ?_
  refine cw_region rfl ?_
  refine rl (o_call (awake17_ok _ hT) Tryd.call17 (fun v8 w9 hk10 hv11 => ?_)) rfl
  have hl_b1_w9 := hB6.lt
  have hs_w9 := hK.size
  have hsk_w9 := hk10.size
  obtain rfl := hv11
  replace hK := hK.trans (Kp.ext hk10)
  replace hB6 := hB6.ext hk10
  replace hT := hT.ext hk10
  replace hR := hR.ext hk10
  replace hMs := hMs.ext hk10
  refine rl (o_assign (v := .bool (true)) rfl ?_) rfl
  refine rl_nil ?_
  refine k_tn ?_
  refine cw_norm [(1, .int .i64 (tn)), (2, .slice am ms.length cm), (3, .int .i64 (bg)), (4, .pointer (some ⟨b1, 0, none⟩)), (9, .bool (true))] ⟨rfl, rfl, rfl, rfl, rfl, trivial⟩ (fun ρn12 => ?_)
  refine cw_seq ?_
  refine cw_seq ?_
  refine cw_region rfl ?_
  refine rl (o_move (v := .bool (true)) rfl ?_) rfl
  refine rl (o_not rfl ?_) rfl
  refine rl_nil ?_
  refine k_tn ?_
  refine cw_norm [(1, .int .i64 (tn)), (2, .slice am ms.length cm), (3, .int .i64 (bg)), (4, .pointer (some ⟨b1, 0, none⟩)), (22, .bool (false))] ⟨rfl, rfl, rfl, rfl, rfl, trivial⟩ (fun ρn13 => ?_)
  refine cw_condF rfl ?_
  refine cw_skip ?_
  refine k_tn ?_
  refine cw_norm [(1, .int .i64 (tn)), (2, .slice am ms.length cm), (3, .int .i64 (bg)), (4, .pointer (some ⟨b1, 0, none⟩))] ⟨rfl, rfl, rfl, rfl, trivial⟩ (fun ρn14 => ?_)
  refine cw_seq ?_
  refine cw_region rfl ?_
  refine rl (o_move (v := .slice am ms.length cm) rfl ?_) rfl
  refine rl (o_call (few17_ok _ _ _ _) Tryd.call18 (fun v15 w16 hk17 hv18 => ?_)) rfl
  have hl_b1_w16 := hB6.lt
  have hs_w16 := hK.size
  have hsk_w16 := hk17.size
  obtain rfl := hv18
  replace hK := hK.trans (Kp.ext hk17)
  replace hB6 := hB6.ext hk17
  replace hT := hT.ext hk17
  replace hR := hR.ext hk17
  replace hMs := hMs.ext hk17
  refine rl (o_assign (v := .bool (decide (((ms.length : Nat) : Int) ≤ 100))) rfl ?_) rfl
  refine rl_nil ?_
  refine k_tn ?_
  refine cw_norm [(1, .int .i64 (tn)), (2, .slice am ms.length cm), (3, .int .i64 (bg)), (4, .pointer (some ⟨b1, 0, none⟩)), (10, .bool (decide (((ms.length : Nat) : Int) ≤ 100)))] ⟨rfl, rfl, rfl, rfl, rfl, trivial⟩ (fun ρn19 => ?_)
  refine cw_seq ?_
  refine cw_seq ?_
  refine cw_region rfl ?_
  refine rl (o_move (v := .bool (decide (((ms.length : Nat) : Int) ≤ 100))) rfl ?_) rfl
  refine rl (o_notD (q := ((ms.length : Nat) : Int) ≤ 100) rfl ?_) rfl
  refine rl (o_move (v := .bool (decide (¬ (((ms.length : Nat) : Int) ≤ 100)))) rfl ?_) rfl
  by_cases h20 : ¬ (((ms.length : Nat) : Int) ≤ 100)
  · skip
    refine rlo ?_ (want_f rfl (decide_eq_true h20) (by decide))
    refine rlo ?_ (want_f rfl (decide_eq_true h20) (by decide))
    refine rlo ?_ (want_f rfl (decide_eq_true h20) (by decide))
    refine rl (o_pickT (v := .bool (true)) rfl (decide_eq_true h20) rfl ?_) rfl
    refine rl (o_move (v := .bool (true)) rfl ?_) rfl
    refine rlo ?_ (want_f rfl (rfl) (by decide))
    refine rlo ?_ (want_f rfl (rfl) (by decide))
    refine rlo ?_ (want_f rfl (rfl) (by decide))
    refine rlo ?_ (want_f rfl (rfl) (by decide))
    refine rl (o_pickT (v := .bool (true)) rfl (rfl) rfl ?_) rfl
    refine rl_nil ?_
    refine k_tn ?_
    refine cw_norm [(1, .int .i64 (tn)), (2, .slice am ms.length cm), (3, .int .i64 (bg)), (4, .pointer (some ⟨b1, 0, none⟩)), (37, .bool (true))] ⟨rfl, rfl, rfl, rfl, rfl, trivial⟩ (fun ρn21 => ?_)
    refine cw_condT rfl ?_
    refine cw_reg rfl ?_
    refine rl (o_assign (v := .bool (true)) rfl ?_) rfl
    refine rl_nil ?_
    refine cw_ret ?_
    refine k_tr ?_
    refine ret_intro (v := .bool (true)) (res_ok (vs := [.bool (true)]) rfl ⟨rfl, trivial⟩) hK ?_
    exact rfl
  · skip
    refine rl (o_loadBA (ds := [.int .i64 (b), .int .i64 (m), .int .i64 (c), .slice ao ps.length cp]) rfl hB6 tyA32 rfl rfl ?_) (want_t rfl (decide_eq_false h20))
    refine rl (o_call (check_ok b m c ao cp ps _ _ rfl hpl hR) Tryd.call9 (fun v22 w23 hk24 hv25 => ?_)) (want_t rfl (decide_eq_false h20))
    have hl_b1_w23 := hB6.lt
    have hs_w23 := hK.size
    have hsk_w23 := hk24.size
    obtain rfl := hv25
    replace hK := hK.trans (Kp.ext hk24)
    replace hB6 := hB6.ext hk24
    replace hT := hT.ext hk24
    replace hR := hR.ext hk24
    replace hMs := hMs.ext hk24
    refine rl (o_not rfl ?_) (want_t rfl (decide_eq_false h20))
    refine rl (o_pickF (v := .bool (!(check ⟨b, m, c, ps⟩))) rfl (decide_eq_false h20) rfl ?_) rfl
    refine rl (o_move (v := .bool (!(check ⟨b, m, c, ps⟩))) rfl ?_) rfl
    rcases Bool.eq_false_or_eq_true (!(check ⟨b, m, c, ps⟩)) with h26 | h26
    · skip
      refine rlo ?_ (want_f rfl (h26) (by decide))
      refine rlo ?_ (want_f rfl (h26) (by decide))
      refine rlo ?_ (want_f rfl (h26) (by decide))
      refine rlo ?_ (want_f rfl (h26) (by decide))
      refine rl (o_pickT (v := .bool (true)) rfl (h26) rfl ?_) rfl
      refine rl_nil ?_
      refine k_tn ?_
      refine cw_norm [(1, .int .i64 (tn)), (2, .slice am ms.length cm), (3, .int .i64 (bg)), (4, .pointer (some ⟨b1, 0, none⟩)), (37, .bool (true))] ⟨rfl, rfl, rfl, rfl, rfl, trivial⟩ (fun ρn27 => ?_)
      refine cw_condT rfl ?_
      refine cw_reg rfl ?_
      refine rl (o_assign (v := .bool (true)) rfl ?_) rfl
      refine rl_nil ?_
      refine cw_ret ?_
      refine k_tr ?_
      refine ret_intro (v := .bool (true)) (res_ok (vs := [.bool (true)]) rfl ⟨rfl, trivial⟩) hK ?_
      exact rfl
    · skip
      refine rl (o_field rfl fa32_3 ?_) (want_t rfl (h26))
      refine rl (o_loadB (v := .slice ao ps.length cp) rfl hB6 tyS30 rfl ?_) (want_t rfl (h26))
      refine rl (o_len rfl Tryd.underlying30 ?_) (want_t rfl (h26))
      refine rl (o_gtr rfl rfl ?_) (want_t rfl (h26))
      refine rl (o_pickF (v := .bool (decide (64 < ((ps.length : Nat) : Int)))) rfl (h26) rfl ?_) rfl
      refine rl_nil ?_
      refine k_tn ?_
      refine cw_norm [(1, .int .i64 (tn)), (2, .slice am ms.length cm), (3, .int .i64 (bg)), (4, .pointer (some ⟨b1, 0, none⟩)), (37, .bool (decide (64 < ((ps.length : Nat) : Int))))] ⟨rfl, rfl, rfl, rfl, rfl, trivial⟩ (fun ρn28 => ?_)
      refine cw_if rfl (fun h29 => ?_) (fun h29 => ?_)
      · skip
        refine cw_reg rfl ?_
        refine rl (o_assign (v := .bool (true)) rfl ?_) rfl
        refine rl_nil ?_
        refine cw_ret ?_
        refine k_tr ?_
        refine ret_intro (v := .bool (true)) (res_ok (vs := [.bool (true)]) rfl ⟨rfl, trivial⟩) hK ?_
        exact rfl
      · skip
        refine cw_skip ?_
        refine k_tn ?_
        refine cw_norm [(1, .int .i64 (tn)), (2, .slice am ms.length cm), (3, .int .i64 (bg)), (4, .pointer (some ⟨b1, 0, none⟩))] ⟨rfl, rfl, rfl, rfl, trivial⟩ (fun ρn30 => ?_)
        have hck : check ⟨b, m, c, ps⟩ = true := (by simpa using h26)
        have hl80 : ps.length ≤ 64 := by omega
        have hmn : ms.length ≤ 100 := by omega
        obtain ⟨hpp, hpb, hpm⟩ := permits_ok hck
        have hj0 : jload crcOf ⟨[], [], 0, [], false⟩ = (.zero, 0) := jload_short isB_nil isB_nil (by decide) (by decide)
        obtain ⟨X1, hX1⟩ : ∃ X, jput crcOf ⟨b, m, c, ps⟩ 1 = X := ⟨_, rfl⟩
        have hBX1 : isB X1 := hX1 ▸ isB_jput _ _
        have hNX1 : X1.length ≤ 1000 := by have := jput_len8 ⟨b, m, c, ps⟩ 1; rw [hX1] at this; dsimp only at this; omega
        obtain ⟨X2, hX2⟩ : ∃ X, jput crcOf ⟨b, m, c, ps⟩ 2 = X := ⟨_, rfl⟩
        have hBX2 : isB X2 := hX2 ▸ isB_jput _ _
        have hNX2 : X2.length ≤ 1000 := by have := jput_len8 ⟨b, m, c, ps⟩ 2; rw [hX2] at this; dsimp only at this; omega
        have hj1 : jload crcOf ⟨[], X1, 1, [], true⟩ = (⟨b, m, 0, ps⟩, 1) := hX1 ▸ jload_first isB_nil (by decide) hck (by show ps.length ≤ 8000; omega)
        obtain ⟨T0, hT0⟩ : ∃ X, (if true = false ∨ (X2.length : Int) ≤ max tn 0 then X2 else X2.take (max tn 0).toNat ++ ([] : List Int).drop (min (max tn 0) ((([] : List Int).length : Nat) : Int)).toNat) = X := ⟨_, rfl⟩
        have hBT : isB T0 := by
          rw [← hT0]; split
          · exact hBX2
          · exact isB_append (isB_take hBX2 _) (isB_drop isB_nil _)
        have hNT : T0.length ≤ 1000 := by
          rw [← hT0]; split
          · exact hNX2
          · simp; omega
        obtain ⟨lw, qw, hj2⟩ : ∃ l q, jload crcOf ⟨T0, X1, 0, [], true⟩ = (l, q) := ⟨_, _, rfl⟩
        have hji := jload_is (wa := []) (la := 0) (wr := true) hBT hBX1
        rw [hj2] at hji
        obtain ⟨hlc, hll, _⟩ := hji
        dsimp only at hlc hll
        obtain ⟨_, _, hlm, _, _⟩ := check_parts hlc
        have hiv := ag_inv lw.l (min (max bg 0) 1048576) ms (by omega) ms.length (Nat.le_refl _)
        obtain ⟨AA, hAA⟩ : ∃ a, agN lw.l (min (max bg 0) 1048576) ms ms.length = a := ⟨_, rfl⟩
        rw [hAA] at hiv
        have hxc : check ⟨(min (max bg 0) 1048576), lw.margin, 0, AA.1⟩ = true := by rw [check_of hiv.i3]; have h1 : power (min (max bg 0) 1048576) = true := power_iff.2 (by omega); have h2 := hiv.i4.2; have h0 : power 0 = true := (by decide); simp [h1, hlm, h0, h2]
        have hi4 := hiv.i4
        have hi5 := hiv.i5
        have hl_b1_d1 := hB6.lt
        refine cw_norm [(1, .int .i64 (tn)), (2, .slice am ms.length cm), (3, .int .i64 (bg)), (4, .pointer (some ⟨b1, 0, none⟩))] ⟨rfl, rfl, rfl, rfl, trivial⟩ (fun ρr62 => ?_)
        have hsr1 := hK.size
        refine cw_drawnK (fun _ => False) (fun lo hi k => lo 13 ≤ k ∧ k < hi 13) 14 [.fact (fun c wq => (cv c 0) = .agg #[.slice (sAo (tAt (cv c 0) 0)) 0 (sCap (tAt (cv c 0) 0)), .slice (sAo (tAt (cv c 0) 1)) 0 (sCap (tAt (cv c 0) 1)), .int .i64 (0), .slice none 0 0, .bool (false)] ∧ (w23.heap.size ≤ (ca c 0)) ∧ (Rd (fun b => (ca c 0) ≤ b ∧ b < (ce c 0)) wq 1 (.slice (sAo (tAt (cv c 0) 0)) 0 (sCap (tAt (cv c 0) 0))) ((([] : List Int)).map encB)) ∧ (Rd (fun b => (ca c 0) ≤ b ∧ b < (ce c 0)) wq 1 (.slice (sAo (tAt (cv c 0) 1)) 0 (sCap (tAt (cv c 0) 1))) ((([] : List Int)).map encB))), .val (.agg #[.int .i64 (b), .int .i64 (m), .int .i64 (c), .slice ao ps.length cp]), .fact (fun c wq => (cv c 0) = .agg #[.slice (sAo (tAt (cv c 1) 0)) 0 (sCap (tAt (cv c 1) 0)), .slice (sAo (tAt (cv c 0) 1)) X1.length (sCap (tAt (cv c 0) 1)), .int .i64 (1), .slice (sAo (tAt (cv c 1) 1)) 0 (sCap (tAt (cv c 1) 1)), .bool (true)] ∧ (w23.heap.size ≤ (ca c 0)) ∧ (Rd (fun b => (ca c 0) ≤ b ∧ b < (ce c 0)) wq 1 (.slice (sAo (tAt (cv c 0) 1)) X1.length (sCap (tAt (cv c 0) 1))) ((X1).map encB))), .val (.agg #[.int .i64 (b), .int .i64 (m), .int .i64 (c), .slice ao ps.length cp]), .fact (fun c wq => (cv c 0) = .agg #[.slice (sAo (tAt (cv c 0) 0)) X2.length (sCap (tAt (cv c 0) 0)), .slice (sAo (tAt (cv c 3) 1)) X1.length (sCap (tAt (cv c 3) 1)), .int .i64 (0), .slice (sAo (tAt (cv c 1) 0)) 0 (sCap (tAt (cv c 1) 0)), .bool (true)] ∧ (w23.heap.size ≤ (ca c 0)) ∧ (Rd (fun b => (ca c 0) ≤ b ∧ b < (ce c 0)) wq 1 (.slice (sAo (tAt (cv c 0) 0)) X2.length (sCap (tAt (cv c 0) 0))) ((X2).map encB))), .val (.int .i64 (tn)), .fact (fun c wq => (cv c 0) = .agg #[.slice (sAo (tAt (cv c 0) 0)) T0.length (sCap (tAt (cv c 0) 0)), .slice (sAo (tAt (cv c 3) 1)) X1.length (sCap (tAt (cv c 3) 1)), .int .i64 (0), .slice (sAo (tAt (cv c 1) 0)) 0 (sCap (tAt (cv c 1) 0)), .bool (true)]), .val (.slice am ms.length cm), .val (.int .i64 (bg)), .fact (fun c wq => (cv c 0) = .tuple #[.agg #[.int .i64 ((min (max bg 0) 1048576)), .int .i64 (lw.margin), .int .i64 (0), .slice (sAo (tAt (tAt (cv c 0) 0) 3)) AA.1.length (sCap (tAt (tAt (cv c 0) 0) 3))], .slice (sAo (tAt (cv c 0) 1)) AA.2.length (sCap (tAt (cv c 0) 1))] ∧ (w23.heap.size ≤ (ca c 0)) ∧ (Rd (fun b => (ca c 0) ≤ b ∧ b < (ce c 0)) wq 2 (.slice (sAo (tAt (tAt (cv c 0) 0) 3)) AA.1.length (sCap (tAt (tAt (cv c 0) 0) 3))) ((AA.1).map encP)) ∧ (Rd (fun b => (ca c 0) ≤ b ∧ b < (ce c 0)) wq 1 (.slice (sAo (tAt (cv c 0) 1)) AA.2.length (sCap (tAt (cv c 0) 1))) ((AA.2).map encI))), .fact (fun c wq => (cv c 0) = .tuple #[.agg #[.int .i64 ((min (max bg 0) 1048576)), .int .i64 (lw.margin), .int .i64 (0), .slice (sAo (tAt (tAt (cv c 10) 0) 3)) AA.1.length (sCap (tAt (tAt (cv c 10) 0) 3))], .slice (sAo (tAt (cv c 10) 1)) AA.2.length (sCap (tAt (cv c 10) 1))]), .fact (fun c wq => (cv c 0) = .agg #[.int .i64 ((min (max bg 0) 1048576)), .int .i64 (lw.margin), .int .i64 (0), .slice (sAo (tAt (tAt (cv c 10) 0) 3)) AA.1.length (sCap (tAt (tAt (cv c 10) 0) 3))]), .fact (fun c wq => (cv c 0) = .slice (sAo (tAt (cv c 10) 1)) AA.2.length (sCap (tAt (cv c 10) 1))), .fact (fun c wq => (cv c 0) = .pointer (some ⟨(pBlk (cv c 0)), 0, none⟩) ∧ (w23.heap.size ≤ (ca c 0)) ∧ ((ca c 0) ≤ (pBlk (cv c 0)) ∧ (pBlk (cv c 0)) < (ce c 0))), .fact (fun c wq => (Box wq (pBlk (cv c 13)) [.int .i64 ((min (max bg 0) 1048576)), .int .i64 (lw.margin), .int .i64 (0), .slice (sAo (tAt (tAt (cv c 10) 0) 3)) AA.1.length (sCap (tAt (tAt (cv c 10) 0) 3))] 32))] [.fact (fun c wq => (cv c 0) = .agg #[.slice (sAo (tAt (cv c 0) 0)) 0 (sCap (tAt (cv c 0) 0)), .slice (sAo (tAt (cv c 0) 1)) 0 (sCap (tAt (cv c 0) 1)), .int .i64 (0), .slice none 0 0, .bool (false)] ∧ (w23.heap.size ≤ (ca c 0)) ∧ (Rd (fun b => (ca c 0) ≤ b ∧ b < (ce c 0)) wq 1 (.slice (sAo (tAt (cv c 0) 0)) 0 (sCap (tAt (cv c 0) 0))) ((([] : List Int)).map encB)) ∧ (Rd (fun b => (ca c 0) ≤ b ∧ b < (ce c 0)) wq 1 (.slice (sAo (tAt (cv c 0) 1)) 0 (sCap (tAt (cv c 0) 1))) ((([] : List Int)).map encB))), .val (.agg #[.int .i64 (b), .int .i64 (m), .int .i64 (c), .slice ao ps.length cp]), .fact (fun c wq => (cv c 0) = .agg #[.slice (sAo (tAt (cv c 1) 0)) 0 (sCap (tAt (cv c 1) 0)), .slice (sAo (tAt (cv c 0) 1)) X1.length (sCap (tAt (cv c 0) 1)), .int .i64 (1), .slice (sAo (tAt (cv c 1) 1)) 0 (sCap (tAt (cv c 1) 1)), .bool (true)] ∧ (w23.heap.size ≤ (ca c 0)) ∧ (Rd (fun b => (ca c 0) ≤ b ∧ b < (ce c 0)) wq 1 (.slice (sAo (tAt (cv c 0) 1)) X1.length (sCap (tAt (cv c 0) 1))) ((X1).map encB))), .val (.agg #[.int .i64 (b), .int .i64 (m), .int .i64 (c), .slice ao ps.length cp]), .fact (fun c wq => (cv c 0) = .agg #[.slice (sAo (tAt (cv c 0) 0)) X2.length (sCap (tAt (cv c 0) 0)), .slice (sAo (tAt (cv c 3) 1)) X1.length (sCap (tAt (cv c 3) 1)), .int .i64 (0), .slice (sAo (tAt (cv c 1) 0)) 0 (sCap (tAt (cv c 1) 0)), .bool (true)] ∧ (w23.heap.size ≤ (ca c 0)) ∧ (Rd (fun b => (ca c 0) ≤ b ∧ b < (ce c 0)) wq 1 (.slice (sAo (tAt (cv c 0) 0)) X2.length (sCap (tAt (cv c 0) 0))) ((X2).map encB))), .val (.int .i64 (tn)), .fact (fun c wq => (cv c 0) = .agg #[.slice (sAo (tAt (cv c 0) 0)) T0.length (sCap (tAt (cv c 0) 0)), .slice (sAo (tAt (cv c 3) 1)) X1.length (sCap (tAt (cv c 3) 1)), .int .i64 (0), .slice (sAo (tAt (cv c 1) 0)) 0 (sCap (tAt (cv c 1) 0)), .bool (true)] ∧ (Rd (fun b => True) wq 1 (.slice (sAo (tAt (cv c 0) 0)) T0.length (sCap (tAt (cv c 0) 0))) ((T0).map encB))), .val (.slice am ms.length cm), .val (.int .i64 (bg)), .fact (fun c wq => (cv c 0) = .tuple #[.agg #[.int .i64 ((min (max bg 0) 1048576)), .int .i64 (lw.margin), .int .i64 (0), .slice (sAo (tAt (tAt (cv c 0) 0) 3)) AA.1.length (sCap (tAt (tAt (cv c 0) 0) 3))], .slice (sAo (tAt (cv c 0) 1)) AA.2.length (sCap (tAt (cv c 0) 1))] ∧ (w23.heap.size ≤ (ca c 0)) ∧ (Rd (fun b => (ca c 0) ≤ b ∧ b < (ce c 0)) wq 2 (.slice (sAo (tAt (tAt (cv c 0) 0) 3)) AA.1.length (sCap (tAt (tAt (cv c 0) 0) 3))) ((AA.1).map encP)) ∧ (Rd (fun b => (ca c 0) ≤ b ∧ b < (ce c 0)) wq 1 (.slice (sAo (tAt (cv c 0) 1)) AA.2.length (sCap (tAt (cv c 0) 1))) ((AA.2).map encI))), .fact (fun c wq => (cv c 0) = .tuple #[.agg #[.int .i64 ((min (max bg 0) 1048576)), .int .i64 (lw.margin), .int .i64 (0), .slice (sAo (tAt (tAt (cv c 10) 0) 3)) AA.1.length (sCap (tAt (tAt (cv c 10) 0) 3))], .slice (sAo (tAt (cv c 10) 1)) AA.2.length (sCap (tAt (cv c 10) 1))]), .fact (fun c wq => (cv c 0) = .agg #[.int .i64 ((min (max bg 0) 1048576)), .int .i64 (lw.margin), .int .i64 (0), .slice (sAo (tAt (tAt (cv c 10) 0) 3)) AA.1.length (sCap (tAt (tAt (cv c 10) 0) 3))]), .fact (fun c wq => (cv c 0) = .slice (sAo (tAt (cv c 10) 1)) AA.2.length (sCap (tAt (cv c 10) 1))), .fact (fun c wq => (cv c 0) = .pointer (some ⟨(pBlk (cv c 0)), 0, none⟩) ∧ (w23.heap.size ≤ (ca c 0)) ∧ ((ca c 0) ≤ (pBlk (cv c 0)) ∧ (pBlk (cv c 0)) < (ce c 0)) ∧ (Box wq (pBlk (cv c 0)) [.int .i64 (0), .int .i64 (0), .int .i64 (0), .slice none 0 0] 32)), .fact (fun c wq => (Box wq (pBlk (cv c 13)) [.int .i64 ((min (max bg 0) 1048576)), .int .i64 (lw.margin), .int .i64 (0), .slice (sAo (tAt (tAt (cv c 10) 0) 3)) AA.1.length (sCap (tAt (tAt (cv c 10) 0) 3))] 32))] [[], [], [0, 1], [], [0, 1, 2, 3], [], [0, 1, 2, 3, 4, 5], [], [], [0, 1, 2, 3, 4, 5, 6, 7, 8], [0, 1, 2, 3, 4, 5, 6, 7, 8, 9], [0, 1, 2, 3, 4, 5, 6, 7, 8, 9, 10], [0, 1, 2, 3, 4, 5, 6, 7, 8, 9, 10], [], [0, 1, 2, 3, 4, 5, 6, 7, 8, 9, 10, 11, 13], [0, 1, 2, 3, 4, 5, 6, 7, 8, 9, 10, 11, 12, 13, 14]] 15 mixed (by kernel_rfl) (fun lo hi h k hk hT => by have h1 := h 13 (by decide); have h2 : lo 13 ≤ k ∧ k < hi 13 := hT; omega) ⟨upK_pre rfl rfl (fun c wq wq' ⟨hv, hlo0, hF0f, hF1f⟩ hk => ⟨hv, hlo0, hF0f.ext hk, hF1f.ext hk⟩) (fun c wq wq' ⟨hv, hlo0, hF0f, hF1f⟩ hk => ⟨hv, hlo0, hF0f.ext hk, hF1f.ext hk⟩) (fun vs lo hi wq wq' hap hbd ⟨hv, hlo0, hF0f, hF1f⟩ hk => ⟨hv, hlo0, hF0f.kp hk (fun i _ hF hS => by have h1 : lo 0 ≤ i ∧ i < hi 0 := hF; have h2 : lo 13 ≤ i ∧ i < hi 13 := hS; have h4 := (hbd 13 (by decide)).1; have h3 := (hap 0 13 (by decide) (by decide) (by decide)).1; omega), hF1f.kp hk (fun i _ hF hS => by have h1 : lo 0 ≤ i ∧ i < hi 0 := hF; have h2 : lo 13 ≤ i ∧ i < hi 13 := hS; have h4 := (hbd 13 (by decide)).1; have h3 := (hap 0 13 (by decide) (by decide) (by decide)).1; omega)⟩) (fun _ _ _ h => h), upK_val, upK_pre rfl rfl (fun c wq wq' ⟨hv, hlo2, hP1⟩ hk => ⟨hv, hlo2, hP1.ext hk⟩) (fun c wq wq' ⟨hv, hlo2, hP1⟩ hk => ⟨hv, hlo2, hP1.ext hk⟩) (fun vs lo hi wq wq' hap hbd ⟨hv, hlo2, hP1⟩ hk => ⟨hv, hlo2, hP1.kp hk (fun i _ hF hS => by have h1 : lo 2 ≤ i ∧ i < hi 2 := hF; have h2 : lo 13 ≤ i ∧ i < hi 13 := hS; have h4 := (hbd 13 (by decide)).1; have h3 := (hap 2 13 (by decide) (by decide) (by decide)).1; omega)⟩) (fun _ _ _ h => h), upK_val, upK_pre rfl rfl (fun c wq wq' ⟨hv, hlo4, hP2⟩ hk => ⟨hv, hlo4, hP2.ext hk⟩) (fun c wq wq' ⟨hv, hlo4, hP2⟩ hk => ⟨hv, hlo4, hP2.ext hk⟩) (fun vs lo hi wq wq' hap hbd ⟨hv, hlo4, hP2⟩ hk => ⟨hv, hlo4, hP2.kp hk (fun i _ hF hS => by have h1 : lo 4 ≤ i ∧ i < hi 4 := hF; have h2 : lo 13 ≤ i ∧ i < hi 13 := hS; have h4 := (hbd 13 (by decide)).1; have h3 := (hap 4 13 (by decide) (by decide) (by decide)).1; omega)⟩) (fun _ _ _ h => h), upK_val, upK_pre rfl rfl (fun c wq wq' ⟨hv, hTT⟩ hk => ⟨hv, hTT.ext hk⟩) (fun c wq wq' hv hk => hv) (fun vs lo hi wq wq' hap hbd hv hk => hv) (fun v c wq ⟨hv, hTT⟩ => hv), upK_val, upK_val, upK_pre rfl rfl (fun c wq wq' ⟨hv, hlo9, hRO, hRS⟩ hk => ⟨hv, hlo9, hRO.ext hk, hRS.ext hk⟩) (fun c wq wq' ⟨hv, hlo9, hRO, hRS⟩ hk => ⟨hv, hlo9, hRO.ext hk, hRS.ext hk⟩) (fun vs lo hi wq wq' hap hbd ⟨hv, hlo9, hRO, hRS⟩ hk => ⟨hv, hlo9, hRO.kp hk (fun i _ hF hS => by have h1 : lo 9 ≤ i ∧ i < hi 9 := hF; have h2 : lo 13 ≤ i ∧ i < hi 13 := hS; have h4 := (hbd 13 (by decide)).1; have h3 := (hap 9 13 (by decide) (by decide) (by decide)).1; omega), hRS.kp hk (fun i _ hF hS => by have h1 : lo 9 ≤ i ∧ i < hi 9 := hF; have h2 : lo 13 ≤ i ∧ i < hi 13 := hS; have h4 := (hbd 13 (by decide)).1; have h3 := (hap 9 13 (by decide) (by decide) (by decide)).1; omega)⟩) (fun _ _ _ h => h), upK_pre rfl rfl (fun c wq wq' hv hk => hv) (fun c wq wq' hv hk => hv) (fun vs lo hi wq wq' hap hbd hv hk => hv) (fun _ _ _ h => h), upK_pre rfl rfl (fun c wq wq' hv hk => hv) (fun c wq wq' hv hk => hv) (fun vs lo hi wq wq' hap hbd hv hk => hv) (fun _ _ _ h => h), upK_no rfl rfl (fun c wq wq' hv hk => hv) (fun vs lo hi wq wq' hap hbd hv hk => hv), upK_pre rfl rfl (fun c wq wq' ⟨hv, hlo13, hge_b52, hB57⟩ hk => ⟨hv, hlo13, hge_b52, hB57.ext hk⟩) (fun c wq wq' ⟨hv, hlo13, hge_b52⟩ hk => ⟨hv, hlo13, hge_b52⟩) (fun vs lo hi wq wq' hap hbd ⟨hv, hlo13, hge_b52⟩ hk => ⟨hv, hlo13, hge_b52⟩) (fun v c wq ⟨hv, hlo13, hge_b52, hB57⟩ => ⟨hv, hlo13, hge_b52⟩), upK_one rfl (fun c wq wq' hBu31 hk => hBu31.ext hk), trivial⟩ ⟨⟨⟨⟨⟨⟨⟨⟨⟨⟨⟨⟨⟨⟨⟨trivial, ?_⟩, ?_⟩, ?_⟩, ?_⟩, ?_⟩, ?_⟩, ?_⟩, ?_⟩, ?_⟩, ?_⟩, ?_⟩, ?_⟩, ?_⟩, ?_⟩, ?_⟩ (fun w63 vs64 lo65 hi66 hE67 hkn68 hap69 => ?_)
        · refine oblK_pre rfl rfl (fun w63k vs lo hi hE hkn hap => ?_)
          have hEs := hE.size
          replace hK := hK.trans (Kp.ext hE)
          replace hB6 := hB6.ext hE
          replace hT := hT.ext hE
          replace hR := hR.ext hE
          replace hMs := hMs.ext hE
          refine oblK_p rfl rfl ?_
          refine opk_norm [] trivial (fun ρq => ?_)
          refine o_call (from_ok (F0 := Non) (F1 := Non) none none 0 0 [] [] _ _ _ rfl rfl (by decide) (by decide) (Rd.nil _ _) (Rd.nil _ _)) Tryd.call7 (fun v70 w71 hk72 hv73 => ?_)
          have hl_b1_w71 := hB6.lt
          have hs_w71 := hK.size
          have hsk_w71 := hk72.size
          obtain ⟨aaf, abf, caf, cbf, rfl, hF0f, hF1f⟩ := hv73
          replace hK := hK.trans (Kp.ext hk72)
          replace hB6 := hB6.ext hk72
          replace hT := hT.ext hk72
          replace hR := hR.ext hk72
          replace hMs := hMs.ext hk72
          exact ⟨hk72, rfl, hEs, hF0f.mono (fun b hb h => ⟨h, hb⟩), hF1f.mono (fun b hb h => ⟨h, hb⟩)⟩
        · refine oblK_pre rfl rfl (fun w63k vs lo hi hE hkn hap => ?_)
          have hEs := hE.size
          replace hK := hK.trans (Kp.ext hE)
          replace hB6 := hB6.ext hE
          replace hT := hT.ext hE
          replace hR := hR.ext hE
          replace hMs := hMs.ext hE
          refine oblK_p rfl rfl ?_
          refine opk_norm [(4, .pointer (some ⟨b1, 0, none⟩))] ⟨rfl, trivial⟩ (fun ρq => ?_)
          refine o_loadBA (ds := [.int .i64 (b), .int .i64 (m), .int .i64 (c), .slice ao ps.length cp]) rfl hB6 tyA32 rfl rfl ?_
          exact ⟨Kp.refl _ _, rfl⟩
        · refine oblK_pre rfl rfl (fun w63k vs lo hi hE hkn hap => ?_)
          have hEs := hE.size
          replace hK := hK.trans (Kp.ext hE)
          replace hB6 := hB6.ext hE
          replace hT := hT.ext hE
          replace hR := hR.ext hE
          replace hMs := hMs.ext hE
          obtain ⟨⟨⟨hv0_t, hlo0_t, hF0f_t, hF1f_t⟩, hq1_0, hq2_0, hq3_0⟩, -, -⟩ := hkn
          obtain ⟨aaf, abf, caf, cbf, hv0, hlo0, hF0f, hF1f⟩ : ∃ (aaf : Option Addr) (abf : Option Addr) (caf : Nat) (cbf : Nat), (vs 0 = .agg #[.slice aaf 0 caf, .slice abf 0 cbf, .int .i64 (0), .slice none 0 0, .bool (false)]) ∧ (w23.heap.size ≤ (lo 0)) ∧ (Rd (fun b => (lo 0) ≤ b ∧ b < (hi 0)) w63k 1 (.slice aaf 0 caf) ((([] : List Int)).map encB)) ∧ (Rd (fun b => (lo 0) ≤ b ∧ b < (hi 0)) w63k 1 (.slice abf 0 cbf) ((([] : List Int)).map encB)) := ⟨_, _, _, _, hv0_t, hlo0_t, hF0f_t, hF1f_t⟩
          clear hF1f_t hF0f_t hlo0_t hv0_t
          replace hq1_0 : w23.heap.size ≤ lo 0 := hq1_0
          replace hq2_0 : lo 0 ≤ hi 0 := hq2_0
          replace hq3_0 : hi 0 ≤ w63k.heap.size := hq3_0
          refine oblK_p rfl rfl ?_
          refine opk_norm [(39, .agg #[.slice aaf 0 caf, .slice abf 0 cbf, .int .i64 (0), .slice none 0 0, .bool (false)]), (40, .agg #[.int .i64 (b), .int .i64 (m), .int .i64 (c), .slice ao ps.length cp])] ⟨hv0, rfl, trivial⟩ (fun ρq => ?_)
          refine o_call (write1_to (F0 := fun _ => True) (F1 := fun _ => True) _ _ none _ _ 0 [] [] [] 0 false b m c _ _ ps _ _ _ _ 1 X1 _ (by rw [hj0]; rfl) hX1 (by decide) (by decide) rfl rfl rfl rfl (by decide) (by decide) isB_nil isB_nil (by omega) hpp hpb hpm hT (hF0f.mono (fun _ _ _ => trivial)) (hF1f.mono (fun _ _ _ => trivial)) hR) Tryd.call11 (fun v74 w75 hk76 hv77 => ?_)
          have hl_b1_w75 := hB6.lt
          have hs_w75 := hK.size
          have hsk_w75 := hk76.size
          obtain ⟨aw1, cw1, rfl, hP1⟩ := hv77
          replace hK := hK.trans (Kp.ext hk76)
          replace hB6 := hB6.ext hk76
          replace hT := hT.ext hk76
          replace hR := hR.ext hk76
          replace hMs := hMs.ext hk76
          replace hF0f := hF0f.ext hk76
          replace hF1f := hF1f.ext hk76
          exact ⟨hk76, (show (.agg #[.slice aaf 0 caf, .slice aw1 X1.length cw1, .int .i64 (1), .slice abf 0 cbf, .bool (true)] : Value) = .agg #[.slice (sAo (tAt (vs 0) 0)) 0 (sCap (tAt (vs 0) 0)), .slice aw1 X1.length cw1, .int .i64 (1), .slice (sAo (tAt (vs 0) 1)) 0 (sCap (tAt (vs 0) 1)), .bool (true)] from by (try simp only [hv0]); first | done | rfl), hEs, hP1.mono (fun b hb h => ⟨h, hb⟩)⟩
        · refine oblK_pre rfl rfl (fun w63k vs lo hi hE hkn hap => ?_)
          have hEs := hE.size
          replace hK := hK.trans (Kp.ext hE)
          replace hB6 := hB6.ext hE
          replace hT := hT.ext hE
          replace hR := hR.ext hE
          replace hMs := hMs.ext hE
          refine oblK_p rfl rfl ?_
          refine opk_norm [(4, .pointer (some ⟨b1, 0, none⟩))] ⟨rfl, trivial⟩ (fun ρq => ?_)
          refine o_loadBA (ds := [.int .i64 (b), .int .i64 (m), .int .i64 (c), .slice ao ps.length cp]) rfl hB6 tyA32 rfl rfl ?_
          exact ⟨Kp.refl _ _, rfl⟩
        · refine oblK_pre rfl rfl (fun w63k vs lo hi hE hkn hap => ?_)
          have hEs := hE.size
          replace hK := hK.trans (Kp.ext hE)
          replace hB6 := hB6.ext hE
          replace hT := hT.ext hE
          replace hR := hR.ext hE
          replace hMs := hMs.ext hE
          obtain ⟨⟨⟨hv0_t, hlo0_t, hF0f_t, hF1f_t⟩, hq1_0, hq2_0, hq3_0⟩, -, ⟨⟨hv2_t, hlo2_t, hP1_t⟩, hq1_2, hq2_2, hq3_2⟩, -, -⟩ := hkn
          obtain ⟨aaf, abf, caf, cbf, aw1, cw1, hv0, hlo0, hF0f, hF1f, hv2, hlo2, hP1⟩ : ∃ (aaf : Option Addr) (abf : Option Addr) (caf : Nat) (cbf : Nat) (aw1 : Option Addr) (cw1 : Nat), (vs 0 = .agg #[.slice aaf 0 caf, .slice abf 0 cbf, .int .i64 (0), .slice none 0 0, .bool (false)]) ∧ (w23.heap.size ≤ (lo 0)) ∧ (Rd (fun b => (lo 0) ≤ b ∧ b < (hi 0)) w63k 1 (.slice aaf 0 caf) ((([] : List Int)).map encB)) ∧ (Rd (fun b => (lo 0) ≤ b ∧ b < (hi 0)) w63k 1 (.slice abf 0 cbf) ((([] : List Int)).map encB)) ∧ (vs 2 = .agg #[.slice aaf 0 caf, .slice aw1 X1.length cw1, .int .i64 (1), .slice abf 0 cbf, .bool (true)]) ∧ (w23.heap.size ≤ (lo 2)) ∧ (Rd (fun b => (lo 2) ≤ b ∧ b < (hi 2)) w63k 1 (.slice aw1 X1.length cw1) ((X1).map encB)) := ⟨_, _, _, _, _, _, hv0_t, hlo0_t, hF0f_t, hF1f_t, hv2_t, hlo2_t, hP1_t⟩
          clear hP1_t hlo2_t hv2_t hF1f_t hF0f_t hlo0_t hv0_t
          replace hq1_0 : w23.heap.size ≤ lo 0 := hq1_0
          replace hq2_0 : lo 0 ≤ hi 0 := hq2_0
          replace hq3_0 : hi 0 ≤ w63k.heap.size := hq3_0
          replace hq1_2 : w23.heap.size ≤ lo 2 := hq1_2
          replace hq2_2 : lo 2 ≤ hi 2 := hq2_2
          replace hq3_2 : hi 2 ≤ w63k.heap.size := hq3_2
          have hap_0_2 : hi 0 ≤ lo 2 := (hap 0 2 (by decide) (by decide) (by decide)).2 (by decide)
          refine oblK_p rfl rfl ?_
          refine opk_norm [(41, .agg #[.slice aaf 0 caf, .slice aw1 X1.length cw1, .int .i64 (1), .slice abf 0 cbf, .bool (true)]), (42, .agg #[.int .i64 (b), .int .i64 (m), .int .i64 (c), .slice ao ps.length cp])] ⟨hv2, rfl, trivial⟩ (fun ρq => ?_)
          refine o_call (write0_to _ _ _ _ _ _ [] X1 [] 1 true b m c _ _ ps _ _ _ _ 2 X2 _ (by rw [hj1]; rfl) hX2 (by decide) (by decide) rfl rfl rfl rfl (by decide) (by omega) isB_nil hBX1 (by omega) hpp hpb hpm hT hF0f hP1 hR) Tryd.call11 (fun v78 w79 hk80 hv81 => ?_)
          have hl_b1_w79 := hB6.lt
          have hs_w79 := hK.size
          have hsk_w79 := hk80.size
          obtain ⟨aw2, cw2, rfl, hP2⟩ := hv81
          replace hK := hK.trans (Kp.ext hk80)
          replace hB6 := hB6.ext hk80
          replace hT := hT.ext hk80
          replace hR := hR.ext hk80
          replace hMs := hMs.ext hk80
          replace hF0f := hF0f.ext hk80
          replace hF1f := hF1f.ext hk80
          replace hP1 := hP1.ext hk80
          exact ⟨hk80, (show (.agg #[.slice aw2 X2.length cw2, .slice aw1 X1.length cw1, .int .i64 (0), .slice aaf 0 caf, .bool (true)] : Value) = .agg #[.slice aw2 X2.length cw2, .slice (sAo (tAt (vs 2) 1)) X1.length (sCap (tAt (vs 2) 1)), .int .i64 (0), .slice (sAo (tAt (vs 0) 0)) 0 (sCap (tAt (vs 0) 0)), .bool (true)] from by (try simp only [hv0, hv2]); first | done | rfl), hEs, hP2.mono (fun b hb h => ⟨h, hb⟩)⟩
        · refine oblK_pre rfl rfl (fun w63k vs lo hi hE hkn hap => ?_)
          have hEs := hE.size
          replace hK := hK.trans (Kp.ext hE)
          replace hB6 := hB6.ext hE
          replace hT := hT.ext hE
          replace hR := hR.ext hE
          replace hMs := hMs.ext hE
          refine oblK_p rfl rfl ?_
          refine opk_norm [(1, .int .i64 (tn))] ⟨rfl, trivial⟩ (fun ρq => ?_)
          refine o_move (v := .int .i64 (tn)) rfl ?_
          exact ⟨Kp.refl _ _, rfl⟩
        · refine oblK_pre rfl rfl (fun w63k vs lo hi hE hkn hap => ?_)
          have hEs := hE.size
          replace hK := hK.trans (Kp.ext hE)
          replace hB6 := hB6.ext hE
          replace hT := hT.ext hE
          replace hR := hR.ext hE
          replace hMs := hMs.ext hE
          obtain ⟨⟨⟨hv0_t, hlo0_t, hF0f_t, hF1f_t⟩, hq1_0, hq2_0, hq3_0⟩, -, ⟨⟨hv2_t, hlo2_t, hP1_t⟩, hq1_2, hq2_2, hq3_2⟩, -, ⟨⟨hv4_t, hlo4_t, hP2_t⟩, hq1_4, hq2_4, hq3_4⟩, -, -⟩ := hkn
          obtain ⟨aaf, abf, caf, cbf, aw1, cw1, aw2, cw2, hv0, hlo0, hF0f, hF1f, hv2, hlo2, hP1, hv4, hlo4, hP2⟩ : ∃ (aaf : Option Addr) (abf : Option Addr) (caf : Nat) (cbf : Nat) (aw1 : Option Addr) (cw1 : Nat) (aw2 : Option Addr) (cw2 : Nat), (vs 0 = .agg #[.slice aaf 0 caf, .slice abf 0 cbf, .int .i64 (0), .slice none 0 0, .bool (false)]) ∧ (w23.heap.size ≤ (lo 0)) ∧ (Rd (fun b => (lo 0) ≤ b ∧ b < (hi 0)) w63k 1 (.slice aaf 0 caf) ((([] : List Int)).map encB)) ∧ (Rd (fun b => (lo 0) ≤ b ∧ b < (hi 0)) w63k 1 (.slice abf 0 cbf) ((([] : List Int)).map encB)) ∧ (vs 2 = .agg #[.slice aaf 0 caf, .slice aw1 X1.length cw1, .int .i64 (1), .slice abf 0 cbf, .bool (true)]) ∧ (w23.heap.size ≤ (lo 2)) ∧ (Rd (fun b => (lo 2) ≤ b ∧ b < (hi 2)) w63k 1 (.slice aw1 X1.length cw1) ((X1).map encB)) ∧ (vs 4 = .agg #[.slice aw2 X2.length cw2, .slice aw1 X1.length cw1, .int .i64 (0), .slice aaf 0 caf, .bool (true)]) ∧ (w23.heap.size ≤ (lo 4)) ∧ (Rd (fun b => (lo 4) ≤ b ∧ b < (hi 4)) w63k 1 (.slice aw2 X2.length cw2) ((X2).map encB)) := ⟨_, _, _, _, _, _, _, _, hv0_t, hlo0_t, hF0f_t, hF1f_t, hv2_t, hlo2_t, hP1_t, hv4_t, hlo4_t, hP2_t⟩
          clear hP2_t hlo4_t hv4_t hP1_t hlo2_t hv2_t hF1f_t hF0f_t hlo0_t hv0_t
          replace hq1_0 : w23.heap.size ≤ lo 0 := hq1_0
          replace hq2_0 : lo 0 ≤ hi 0 := hq2_0
          replace hq3_0 : hi 0 ≤ w63k.heap.size := hq3_0
          replace hq1_2 : w23.heap.size ≤ lo 2 := hq1_2
          replace hq2_2 : lo 2 ≤ hi 2 := hq2_2
          replace hq3_2 : hi 2 ≤ w63k.heap.size := hq3_2
          replace hq1_4 : w23.heap.size ≤ lo 4 := hq1_4
          replace hq2_4 : lo 4 ≤ hi 4 := hq2_4
          replace hq3_4 : hi 4 ≤ w63k.heap.size := hq3_4
          have hap_0_2 : hi 0 ≤ lo 2 := (hap 0 2 (by decide) (by decide) (by decide)).2 (by decide)
          have hap_0_4 : hi 0 ≤ lo 4 := (hap 0 4 (by decide) (by decide) (by decide)).2 (by decide)
          have hap_2_4 : hi 2 ≤ lo 4 := (hap 2 4 (by decide) (by decide) (by decide)).2 (by decide)
          refine oblK_p rfl rfl ?_
          refine opk_norm [(43, .agg #[.slice aw2 X2.length cw2, .slice aw1 X1.length cw1, .int .i64 (0), .slice aaf 0 caf, .bool (true)]), (44, .int .i64 (tn))] ⟨hv4, rfl, trivial⟩ (fun ρq => ?_)
          refine o_call (tear0_to _ _ _ _ _ _ X2 X1 [] true tn _ _ _ T0 _ hT0 rfl rfl rfl (by omega) (by omega) (by decide) hP2 hP1 hF0f) Tryd.call16 (fun v82 w83 hk84 hv85 => ?_)
          have hl_b1_w83 := hB6.lt
          have hs_w83 := hK.size
          have hsk_w83 := hk84.size
          obtain ⟨at3, ct3, rfl, hTT⟩ := hv85
          replace hK := hK.trans (Kp.ext hk84)
          replace hB6 := hB6.ext hk84
          replace hT := hT.ext hk84
          replace hR := hR.ext hk84
          replace hMs := hMs.ext hk84
          replace hF0f := hF0f.ext hk84
          replace hF1f := hF1f.ext hk84
          replace hP1 := hP1.ext hk84
          replace hP2 := hP2.ext hk84
          replace hTT := hTT.mono (G := fun _ => True) (fun _ _ _ => trivial)
          exact ⟨hk84, (show (.agg #[.slice at3 T0.length ct3, .slice aw1 X1.length cw1, .int .i64 (0), .slice aaf 0 caf, .bool (true)] : Value) = .agg #[.slice at3 T0.length ct3, .slice (sAo (tAt (vs 2) 1)) X1.length (sCap (tAt (vs 2) 1)), .int .i64 (0), .slice (sAo (tAt (vs 0) 0)) 0 (sCap (tAt (vs 0) 0)), .bool (true)] from by (try simp only [hv0, hv2, hv4]); first | done | rfl), hTT⟩
        · refine oblK_pre rfl rfl (fun w63k vs lo hi hE hkn hap => ?_)
          have hEs := hE.size
          replace hK := hK.trans (Kp.ext hE)
          replace hB6 := hB6.ext hE
          replace hT := hT.ext hE
          replace hR := hR.ext hE
          replace hMs := hMs.ext hE
          refine oblK_p rfl rfl ?_
          refine opk_norm [(2, .slice am ms.length cm)] ⟨rfl, trivial⟩ (fun ρq => ?_)
          refine o_move (v := .slice am ms.length cm) rfl ?_
          exact ⟨Kp.refl _ _, rfl⟩
        · refine oblK_pre rfl rfl (fun w63k vs lo hi hE hkn hap => ?_)
          have hEs := hE.size
          replace hK := hK.trans (Kp.ext hE)
          replace hB6 := hB6.ext hE
          replace hT := hT.ext hE
          replace hR := hR.ext hE
          replace hMs := hMs.ext hE
          refine oblK_p rfl rfl ?_
          refine opk_norm [(3, .int .i64 (bg))] ⟨rfl, trivial⟩ (fun ρq => ?_)
          refine o_move (v := .int .i64 (bg)) rfl ?_
          exact ⟨Kp.refl _ _, rfl⟩
        · refine oblK_pre rfl rfl (fun w63k vs lo hi hE hkn hap => ?_)
          have hEs := hE.size
          replace hK := hK.trans (Kp.ext hE)
          replace hB6 := hB6.ext hE
          replace hT := hT.ext hE
          replace hR := hR.ext hE
          replace hMs := hMs.ext hE
          obtain ⟨⟨⟨hv0_t, hlo0_t, hF0f_t, hF1f_t⟩, hq1_0, hq2_0, hq3_0⟩, -, ⟨⟨hv2_t, hlo2_t, hP1_t⟩, hq1_2, hq2_2, hq3_2⟩, -, -, -, ⟨⟨hv6_t, hTT_t⟩, hq1_6, hq2_6, hq3_6⟩, -, -, -⟩ := hkn
          obtain ⟨aaf, abf, caf, cbf, aw1, cw1, at3, ct3, hv0, hlo0, hF0f, hF1f, hv2, hlo2, hP1, hv6, hTT⟩ : ∃ (aaf : Option Addr) (abf : Option Addr) (caf : Nat) (cbf : Nat) (aw1 : Option Addr) (cw1 : Nat) (at3 : Option Addr) (ct3 : Nat), (vs 0 = .agg #[.slice aaf 0 caf, .slice abf 0 cbf, .int .i64 (0), .slice none 0 0, .bool (false)]) ∧ (w23.heap.size ≤ (lo 0)) ∧ (Rd (fun b => (lo 0) ≤ b ∧ b < (hi 0)) w63k 1 (.slice aaf 0 caf) ((([] : List Int)).map encB)) ∧ (Rd (fun b => (lo 0) ≤ b ∧ b < (hi 0)) w63k 1 (.slice abf 0 cbf) ((([] : List Int)).map encB)) ∧ (vs 2 = .agg #[.slice aaf 0 caf, .slice aw1 X1.length cw1, .int .i64 (1), .slice abf 0 cbf, .bool (true)]) ∧ (w23.heap.size ≤ (lo 2)) ∧ (Rd (fun b => (lo 2) ≤ b ∧ b < (hi 2)) w63k 1 (.slice aw1 X1.length cw1) ((X1).map encB)) ∧ (vs 6 = .agg #[.slice at3 T0.length ct3, .slice aw1 X1.length cw1, .int .i64 (0), .slice aaf 0 caf, .bool (true)]) ∧ (Rd (fun b => True) w63k 1 (.slice at3 T0.length ct3) ((T0).map encB)) := ⟨_, _, _, _, _, _, _, _, hv0_t, hlo0_t, hF0f_t, hF1f_t, hv2_t, hlo2_t, hP1_t, hv6_t, hTT_t⟩
          clear hTT_t hv6_t hP1_t hlo2_t hv2_t hF1f_t hF0f_t hlo0_t hv0_t
          replace hq1_0 : w23.heap.size ≤ lo 0 := hq1_0
          replace hq2_0 : lo 0 ≤ hi 0 := hq2_0
          replace hq3_0 : hi 0 ≤ w63k.heap.size := hq3_0
          replace hq1_2 : w23.heap.size ≤ lo 2 := hq1_2
          replace hq2_2 : lo 2 ≤ hi 2 := hq2_2
          replace hq3_2 : hi 2 ≤ w63k.heap.size := hq3_2
          replace hq1_6 : w23.heap.size ≤ lo 6 := hq1_6
          replace hq2_6 : lo 6 ≤ hi 6 := hq2_6
          replace hq3_6 : hi 6 ≤ w63k.heap.size := hq3_6
          have hap_0_2 : hi 0 ≤ lo 2 := (hap 0 2 (by decide) (by decide) (by decide)).2 (by decide)
          refine oblK_p rfl rfl ?_
          refine opk_norm [(45, .agg #[.slice at3 T0.length ct3, .slice aw1 X1.length cw1, .int .i64 (0), .slice aaf 0 caf, .bool (true)]), (46, .slice am ms.length cm), (47, .int .i64 (bg))] ⟨hv6, rfl, rfl, trivial⟩ (fun ρq => ?_)
          refine o_call (again_ok (Fw := Non) _ _ _ _ _ _ T0 X1 [] 0 true _ _ ms bg lw qw _ _ _ _ _ rfl rfl rfl rfl (by omega) (by omega) hBT hBX1 hj2 (by omega) hmn hmr hT hTT hP1 hMs) Tryd.call19 (fun v86 w87 hk88 hv89 => ?_)
          have hl_b1_w87 := hB6.lt
          have hs_w87 := hK.size
          have hsk_w87 := hk88.size
          obtain ⟨nO, nS, aoO, aoS, cO, cS, rfl, hnO, hnS, hRO, hRS⟩ := hv89
          replace hK := hK.trans (Kp.ext hk88)
          replace hB6 := hB6.ext hk88
          replace hT := hT.ext hk88
          replace hR := hR.ext hk88
          replace hMs := hMs.ext hk88
          replace hF0f := hF0f.ext hk88
          replace hF1f := hF1f.ext hk88
          replace hP1 := hP1.ext hk88
          replace hTT := hTT.ext hk88
          rw [hAA] at hnO hnS hRO hRS
          subst hnO
          subst hnS
          exact ⟨hk88, (show (.tuple #[.agg #[.int .i64 ((min (max bg 0) 1048576)), .int .i64 (lw.margin), .int .i64 (0), .slice aoO AA.1.length cO], .slice aoS AA.2.length cS] : Value) = .tuple #[.agg #[.int .i64 ((min (max bg 0) 1048576)), .int .i64 (lw.margin), .int .i64 (0), .slice aoO AA.1.length cO], .slice aoS AA.2.length cS] from by (try simp only [hv0, hv2, hv6]); first | done | rfl), hEs, hRO.mono (fun b hb h => ⟨h, hb⟩), hRS.mono (fun b hb h => ⟨h, hb⟩)⟩
        · refine oblK_pre rfl rfl (fun w63k vs lo hi hE hkn hap => ?_)
          have hEs := hE.size
          replace hK := hK.trans (Kp.ext hE)
          replace hB6 := hB6.ext hE
          replace hT := hT.ext hE
          replace hR := hR.ext hE
          replace hMs := hMs.ext hE
          obtain ⟨-, -, -, -, -, -, -, -, -, ⟨⟨hv9_t, hlo9_t, hRO_t, hRS_t⟩, hq1_9, hq2_9, hq3_9⟩, -⟩ := hkn
          obtain ⟨aoO, aoS, cO, cS, hv9, hlo9, hRO, hRS⟩ : ∃ (aoO : Option Addr) (aoS : Option Addr) (cO : Nat) (cS : Nat), (vs 9 = .tuple #[.agg #[.int .i64 ((min (max bg 0) 1048576)), .int .i64 (lw.margin), .int .i64 (0), .slice aoO AA.1.length cO], .slice aoS AA.2.length cS]) ∧ (w23.heap.size ≤ (lo 9)) ∧ (Rd (fun b => (lo 9) ≤ b ∧ b < (hi 9)) w63k 2 (.slice aoO AA.1.length cO) ((AA.1).map encP)) ∧ (Rd (fun b => (lo 9) ≤ b ∧ b < (hi 9)) w63k 1 (.slice aoS AA.2.length cS) ((AA.2).map encI)) := ⟨_, _, _, _, hv9_t, hlo9_t, hRO_t, hRS_t⟩
          clear hRS_t hRO_t hlo9_t hv9_t
          replace hq1_9 : w23.heap.size ≤ lo 9 := hq1_9
          replace hq2_9 : lo 9 ≤ hi 9 := hq2_9
          replace hq3_9 : hi 9 ≤ w63k.heap.size := hq3_9
          refine oblK_p rfl rfl ?_
          refine opk_norm [(48, .tuple #[.agg #[.int .i64 ((min (max bg 0) 1048576)), .int .i64 (lw.margin), .int .i64 (0), .slice aoO AA.1.length cO], .slice aoS AA.2.length cS])] ⟨hv9, trivial⟩ (fun ρq => ?_)
          refine o_move (v := .tuple #[.agg #[.int .i64 ((min (max bg 0) 1048576)), .int .i64 (lw.margin), .int .i64 (0), .slice aoO AA.1.length cO], .slice aoS AA.2.length cS]) rfl ?_
          exact ⟨Kp.refl _ _, (show (.tuple #[.agg #[.int .i64 ((min (max bg 0) 1048576)), .int .i64 (lw.margin), .int .i64 (0), .slice aoO AA.1.length cO], .slice aoS AA.2.length cS] : Value) = .tuple #[.agg #[.int .i64 ((min (max bg 0) 1048576)), .int .i64 (lw.margin), .int .i64 (0), .slice (sAo (tAt (tAt (vs 9) 0) 3)) AA.1.length (sCap (tAt (tAt (vs 9) 0) 3))], .slice (sAo (tAt (vs 9) 1)) AA.2.length (sCap (tAt (vs 9) 1))] from by (try simp only [hv9]); first | done | rfl)⟩
        · refine oblK_pre rfl rfl (fun w63k vs lo hi hE hkn hap => ?_)
          have hEs := hE.size
          replace hK := hK.trans (Kp.ext hE)
          replace hB6 := hB6.ext hE
          replace hT := hT.ext hE
          replace hR := hR.ext hE
          replace hMs := hMs.ext hE
          obtain ⟨-, -, -, -, -, -, -, -, -, ⟨⟨hv9_t, hlo9_t, hRO_t, hRS_t⟩, hq1_9, hq2_9, hq3_9⟩, ⟨hv10_t, hq1_10, hq2_10, hq3_10⟩, -⟩ := hkn
          obtain ⟨aoO, aoS, cO, cS, hv9, hlo9, hRO, hRS, hv10⟩ : ∃ (aoO : Option Addr) (aoS : Option Addr) (cO : Nat) (cS : Nat), (vs 9 = .tuple #[.agg #[.int .i64 ((min (max bg 0) 1048576)), .int .i64 (lw.margin), .int .i64 (0), .slice aoO AA.1.length cO], .slice aoS AA.2.length cS]) ∧ (w23.heap.size ≤ (lo 9)) ∧ (Rd (fun b => (lo 9) ≤ b ∧ b < (hi 9)) w63k 2 (.slice aoO AA.1.length cO) ((AA.1).map encP)) ∧ (Rd (fun b => (lo 9) ≤ b ∧ b < (hi 9)) w63k 1 (.slice aoS AA.2.length cS) ((AA.2).map encI)) ∧ (vs 10 = .tuple #[.agg #[.int .i64 ((min (max bg 0) 1048576)), .int .i64 (lw.margin), .int .i64 (0), .slice aoO AA.1.length cO], .slice aoS AA.2.length cS]) := ⟨_, _, _, _, hv9_t, hlo9_t, hRO_t, hRS_t, hv10_t⟩
          clear hv10_t hRS_t hRO_t hlo9_t hv9_t
          replace hq1_9 : w23.heap.size ≤ lo 9 := hq1_9
          replace hq2_9 : lo 9 ≤ hi 9 := hq2_9
          replace hq3_9 : hi 9 ≤ w63k.heap.size := hq3_9
          replace hq1_10 : w23.heap.size ≤ lo 10 := hq1_10
          replace hq2_10 : lo 10 ≤ hi 10 := hq2_10
          replace hq3_10 : hi 10 ≤ w63k.heap.size := hq3_10
          refine oblK_p rfl rfl ?_
          refine opk_norm [(38, .tuple #[.agg #[.int .i64 ((min (max bg 0) 1048576)), .int .i64 (lw.margin), .int .i64 (0), .slice aoO AA.1.length cO], .slice aoS AA.2.length cS])] ⟨hv10, trivial⟩ (fun ρq => ?_)
          refine o_extract (vs := [.agg #[.int .i64 ((min (max bg 0) 1048576)), .int .i64 (lw.margin), .int .i64 (0), .slice aoO AA.1.length cO], .slice aoS AA.2.length cS]) (v := .agg #[.int .i64 ((min (max bg 0) 1048576)), .int .i64 (lw.margin), .int .i64 (0), .slice aoO AA.1.length cO]) rfl rfl ?_
          exact ⟨Kp.refl _ _, (show (.agg #[.int .i64 ((min (max bg 0) 1048576)), .int .i64 (lw.margin), .int .i64 (0), .slice aoO AA.1.length cO] : Value) = .agg #[.int .i64 ((min (max bg 0) 1048576)), .int .i64 (lw.margin), .int .i64 (0), .slice (sAo (tAt (tAt (vs 9) 0) 3)) AA.1.length (sCap (tAt (tAt (vs 9) 0) 3))] from by (try simp only [hv9, hv10]); first | done | rfl)⟩
        · refine oblK_post rfl rfl (fun w63k vs lo hi hE hkn hap => ?_)
          have hEs := hE.size
          replace hK := hK.trans (Kp.ext hE)
          replace hB6 := hB6.ext hE
          replace hT := hT.ext hE
          replace hR := hR.ext hE
          replace hMs := hMs.ext hE
          obtain ⟨-, -, -, -, -, -, -, -, -, ⟨⟨hv9_t, hlo9_t, hRO_t, hRS_t⟩, hq1_9, hq2_9, hq3_9⟩, ⟨hv10_t, hq1_10, hq2_10, hq3_10⟩, -⟩ := hkn
          obtain ⟨aoO, aoS, cO, cS, hv9, hlo9, hRO, hRS, hv10⟩ : ∃ (aoO : Option Addr) (aoS : Option Addr) (cO : Nat) (cS : Nat), (vs 9 = .tuple #[.agg #[.int .i64 ((min (max bg 0) 1048576)), .int .i64 (lw.margin), .int .i64 (0), .slice aoO AA.1.length cO], .slice aoS AA.2.length cS]) ∧ (w23.heap.size ≤ (lo 9)) ∧ (Rd (fun b => (lo 9) ≤ b ∧ b < (hi 9)) w63k 2 (.slice aoO AA.1.length cO) ((AA.1).map encP)) ∧ (Rd (fun b => (lo 9) ≤ b ∧ b < (hi 9)) w63k 1 (.slice aoS AA.2.length cS) ((AA.2).map encI)) ∧ (vs 10 = .tuple #[.agg #[.int .i64 ((min (max bg 0) 1048576)), .int .i64 (lw.margin), .int .i64 (0), .slice aoO AA.1.length cO], .slice aoS AA.2.length cS]) := ⟨_, _, _, _, hv9_t, hlo9_t, hRO_t, hRS_t, hv10_t⟩
          clear hv10_t hRS_t hRO_t hlo9_t hv9_t
          replace hq1_9 : w23.heap.size ≤ lo 9 := hq1_9
          replace hq2_9 : lo 9 ≤ hi 9 := hq2_9
          replace hq3_9 : hi 9 ≤ w63k.heap.size := hq3_9
          replace hq1_10 : w23.heap.size ≤ lo 10 := hq1_10
          replace hq2_10 : lo 10 ≤ hi 10 := hq2_10
          replace hq3_10 : hi 10 ≤ w63k.heap.size := hq3_10
          refine oblK_n rfl ?_
          refine opk_norm [(38, .tuple #[.agg #[.int .i64 ((min (max bg 0) 1048576)), .int .i64 (lw.margin), .int .i64 (0), .slice aoO AA.1.length cO], .slice aoS AA.2.length cS])] ⟨hv10, trivial⟩ (fun ρq => ?_)
          refine o_extract (vs := [.agg #[.int .i64 ((min (max bg 0) 1048576)), .int .i64 (lw.margin), .int .i64 (0), .slice aoO AA.1.length cO], .slice aoS AA.2.length cS]) (v := .slice aoS AA.2.length cS) rfl rfl ?_
          exact ⟨Kp.refl _ _, (show (.slice aoS AA.2.length cS : Value) = .slice (sAo (tAt (vs 9) 1)) AA.2.length (sCap (tAt (vs 9) 1)) from by (try simp only [hv9, hv10]); first | done | rfl)⟩
        · refine oblK_pre rfl rfl (fun w63k vs lo hi hE hkn hap => ?_)
          have hEs := hE.size
          replace hK := hK.trans (Kp.ext hE)
          replace hB6 := hB6.ext hE
          replace hT := hT.ext hE
          replace hR := hR.ext hE
          replace hMs := hMs.ext hE
          refine oblK_p rfl rfl ?_
          refine opk_norm [] trivial (fun ρq => ?_)
          refine o_alloc Tryd.zeroValue32 (fun b90 w91 hb92 hz93 hk94 hB95 => ?_)
          replace hB95 : Box w91 b90 [.int .i64 (0), .int .i64 (0), .int .i64 (0), .slice none 0 0] 32 := hB95
          have hs_b90 := hK.size
          have hl_b1_b90 := hB6.lt
          replace hK := hK.trans (Kp.ext hk94)
          replace hB6 := hB6.ext hk94
          replace hT := hT.ext hk94
          replace hR := hR.ext hk94
          replace hMs := hMs.ext hk94
          exact ⟨hk94, rfl, hEs, ⟨by first | assumption | omega, hB95.lt⟩, hB95⟩
        · refine oblK_pre rfl rfl (fun w63k vs lo hi hE hkn hap => ?_)
          have hEs := hE.size
          replace hK := hK.trans (Kp.ext hE)
          replace hB6 := hB6.ext hE
          replace hT := hT.ext hE
          replace hR := hR.ext hE
          replace hMs := hMs.ext hE
          obtain ⟨-, -, -, -, -, -, -, -, -, ⟨⟨hv9_t, hlo9_t, hRO_t, hRS_t⟩, hq1_9, hq2_9, hq3_9⟩, -, ⟨hv11_t, hq1_11, hq2_11, hq3_11⟩, ⟨⟨hv13_t, hlo13_t, hge_b52_t, hB57_t⟩, hq1_13, hq2_13, hq3_13⟩, -⟩ := hkn
          obtain ⟨aoO, aoS, cO, cS, b52, hv9, hlo9, hRO, hRS, hv11, hv13, hlo13, hge_b52, hB57⟩ : ∃ (aoO : Option Addr) (aoS : Option Addr) (cO : Nat) (cS : Nat) (b52 : Nat), (vs 9 = .tuple #[.agg #[.int .i64 ((min (max bg 0) 1048576)), .int .i64 (lw.margin), .int .i64 (0), .slice aoO AA.1.length cO], .slice aoS AA.2.length cS]) ∧ (w23.heap.size ≤ (lo 9)) ∧ (Rd (fun b => (lo 9) ≤ b ∧ b < (hi 9)) w63k 2 (.slice aoO AA.1.length cO) ((AA.1).map encP)) ∧ (Rd (fun b => (lo 9) ≤ b ∧ b < (hi 9)) w63k 1 (.slice aoS AA.2.length cS) ((AA.2).map encI)) ∧ (vs 11 = .agg #[.int .i64 ((min (max bg 0) 1048576)), .int .i64 (lw.margin), .int .i64 (0), .slice aoO AA.1.length cO]) ∧ (vs 13 = .pointer (some ⟨b52, 0, none⟩)) ∧ (w23.heap.size ≤ (lo 13)) ∧ ((lo 13) ≤ b52 ∧ b52 < (hi 13)) ∧ (Box w63k b52 [.int .i64 (0), .int .i64 (0), .int .i64 (0), .slice none 0 0] 32) := ⟨_, _, _, _, _, hv9_t, hlo9_t, hRO_t, hRS_t, hv11_t, hv13_t, hlo13_t, hge_b52_t, hB57_t⟩
          clear hB57_t hge_b52_t hlo13_t hv13_t hv11_t hRS_t hRO_t hlo9_t hv9_t
          replace hq1_9 : w23.heap.size ≤ lo 9 := hq1_9
          replace hq2_9 : lo 9 ≤ hi 9 := hq2_9
          replace hq3_9 : hi 9 ≤ w63k.heap.size := hq3_9
          replace hq1_11 : w23.heap.size ≤ lo 11 := hq1_11
          replace hq2_11 : lo 11 ≤ hi 11 := hq2_11
          replace hq3_11 : hi 11 ≤ w63k.heap.size := hq3_11
          replace hq1_13 : w23.heap.size ≤ lo 13 := hq1_13
          replace hq2_13 : lo 13 ≤ hi 13 := hq2_13
          replace hq3_13 : hi 13 ≤ w63k.heap.size := hq3_13
          have hap_9_13 : hi 9 ≤ lo 13 ∨ hi 13 ≤ lo 9 := (hap 9 13 (by decide) (by decide) (by decide)).1
          refine oblK_s rfl ?_
          refine opk_norm [(11, .pointer (some ⟨b52, 0, none⟩)), (49, .agg #[.int .i64 ((min (max bg 0) 1048576)), .int .i64 (lw.margin), .int .i64 (0), .slice aoO AA.1.length cO])] ⟨hv13, hv11, trivial⟩ (fun ρq => ?_)
          refine o_storeA (vs := [.int .i64 ((min (max bg 0) 1048576)), .int .i64 (lw.margin), .int .i64 (0), .slice aoO AA.1.length cO]) rfl rfl hB57 tyA32 rfl rfl (Nat.le_of_ble_eq_true rfl) (fun w96 hk97 hz98 hB99 => ?_)
          replace hB99 : Box w96 b52 [.int .i64 ((min (max bg 0) 1048576)), .int .i64 (lw.margin), .int .i64 (0), .slice aoO AA.1.length cO] 32 := hB99
          replace hK := hK.later hk97 (fun i hi hS => by have h1 : i = b52 := hS; omega)
          replace hB6 := hB6.kp hk97 (by show ¬ b1 = b52; omega)
          replace hT := hT.kp hk97 (fun h => by have h2 : (0 : Nat) = b52 := h; omega)
          replace hR := hR.kp hk97 (fun i _ hF hS => by have h1 : i < w.heap.size := hF; have h2 : i = b52 := hS; omega)
          replace hMs := hMs.kp hk97 (fun i _ hF hS => by have h1 : i < w.heap.size := hF; have h2 : i = b52 := hS; omega)
          replace hRO := hRO.kp hk97 (fun i _ hF hS => by have h1 : (lo 9) ≤ i ∧ i < (hi 9) := hF; have h2 : i = b52 := hS; omega)
          replace hRS := hRS.kp hk97 (fun i _ hF hS => by have h1 : (lo 9) ≤ i ∧ i < (hi 9) := hF; have h2 : i = b52 := hS; omega)
          replace hB57 := hB99
          exact ⟨hk97.mono (fun k _ (e : k = b52) => by subst e; exact hge_b52), (show Box w96 (pBlk (vs 13)) [.int .i64 ((min (max bg 0) 1048576)), .int .i64 (lw.margin), .int .i64 (0), .slice (sAo (tAt (tAt (vs 9) 0) 3)) AA.1.length (sCap (tAt (tAt (vs 9) 0) 3))] 32 from by (try simp only [hv9, hv11, hv13]); exact hB57)⟩
        have hsE1 := hE67.size
        replace hK := hK.trans (Kp.ext hE67)
        replace hB6 := hB6.ext hE67
        replace hT := hT.ext hE67
        replace hR := hR.ext hE67
        replace hMs := hMs.ext hE67
        obtain ⟨⟨hBu31_t, hq1_14, hq2_14, hq3_14⟩, ⟨⟨hv13_t, hlo13_t, hge_b52_t⟩, hq1_13, hq2_13, hq3_13⟩, ⟨hv12_t, hq1_12, hq2_12, hq3_12⟩, -, -, ⟨⟨hv9_t, hlo9_t, hRO_t, hRS_t⟩, hq1_9, hq2_9, hq3_9⟩, -, -, -, -, -, -, -, -, -, -⟩ := hkn68
        obtain ⟨b52, aoO, aoS, cO, cS, hBu31, hv13, hlo13, hge_b52, hv12, hv9, hlo9, hRO, hRS⟩ : ∃ (b52 : Nat) (aoO : Option Addr) (aoS : Option Addr) (cO : Nat) (cS : Nat), (Box w63 b52 [.int .i64 ((min (max bg 0) 1048576)), .int .i64 (lw.margin), .int .i64 (0), .slice aoO AA.1.length cO] 32) ∧ (vs64 13 = .pointer (some ⟨b52, 0, none⟩)) ∧ (w23.heap.size ≤ (lo65 13)) ∧ ((lo65 13) ≤ b52 ∧ b52 < (hi66 13)) ∧ (vs64 12 = .slice aoS AA.2.length cS) ∧ (vs64 9 = .tuple #[.agg #[.int .i64 ((min (max bg 0) 1048576)), .int .i64 (lw.margin), .int .i64 (0), .slice aoO AA.1.length cO], .slice aoS AA.2.length cS]) ∧ (w23.heap.size ≤ (lo65 9)) ∧ (Rd (fun b => (lo65 9) ≤ b ∧ b < (hi66 9)) w63 2 (.slice aoO AA.1.length cO) ((AA.1).map encP)) ∧ (Rd (fun b => (lo65 9) ≤ b ∧ b < (hi66 9)) w63 1 (.slice aoS AA.2.length cS) ((AA.2).map encI)) := ⟨_, _, _, _, _, hBu31_t, hv13_t, hlo13_t, hge_b52_t, hv12_t, hv9_t, hlo9_t, hRO_t, hRS_t⟩
        clear hRS_t hRO_t hlo9_t hv9_t hv12_t hge_b52_t hlo13_t hv13_t hBu31_t
        replace hq1_14 : w23.heap.size ≤ lo65 14 := hq1_14
        replace hq2_14 : lo65 14 ≤ hi66 14 := hq2_14
        replace hq3_14 : hi66 14 ≤ w63.heap.size := hq3_14
        replace hq1_13 : w23.heap.size ≤ lo65 13 := hq1_13
        replace hq2_13 : lo65 13 ≤ hi66 13 := hq2_13
        replace hq3_13 : hi66 13 ≤ w63.heap.size := hq3_13
        replace hq1_12 : w23.heap.size ≤ lo65 12 := hq1_12
        replace hq2_12 : lo65 12 ≤ hi66 12 := hq2_12
        replace hq3_12 : hi66 12 ≤ w63.heap.size := hq3_12
        replace hq1_9 : w23.heap.size ≤ lo65 9 := hq1_9
        replace hq2_9 : lo65 9 ≤ hi66 9 := hq2_9
        replace hq3_9 : hi66 9 ≤ w63.heap.size := hq3_9
        have hap_9_13 : hi66 9 ≤ lo65 13 ∨ hi66 13 ≤ lo65 9 := (hap69 9 13 (by decide) (by decide) (by decide)).1
        refine rl_norm [(2, .slice am ms.length cm), (3, .int .i64 (bg)), (11, .pointer (some ⟨b52, 0, none⟩)), (50, .slice aoS AA.2.length cS)] ⟨rfl, rfl, hv13, hv12, trivial⟩ (fun ρr62q => ?_)
        refine rl (o_assign (v := .slice aoS AA.2.length cS) rfl ?_) rfl
        refine rl_nil ?_
        refine cw_seq ?_
        refine cw_seq ?_
        have hTl := Kp.refl (fun _ => True) w63
        refine cw_region rfl ?_
        refine rl (o_loadBA (ds := [.int .i64 ((min (max bg 0) 1048576)), .int .i64 (lw.margin), .int .i64 (0), .slice aoO AA.1.length cO]) rfl hBu31 tyA32 rfl rfl ?_) rfl
        refine rl (o_call (check_ok _ _ _ _ _ AA.1 _ _ rfl (by omega) hRO) Tryd.call9 (fun v100 w101 hk102 hv103 => ?_)) rfl
        have hl_b1_w101 := hB6.lt
        have hl_b52_w101 := hBu31.lt
        have hs_w101 := hK.size
        have hsk_w101 := hk102.size
        have hq := hv103; rw [hxc] at hq; subst hq
        replace hK := hK.trans (Kp.ext hk102)
        replace hB6 := hB6.ext hk102
        replace hBu31 := hBu31.ext hk102
        replace hT := hT.ext hk102
        replace hR := hR.ext hk102
        replace hMs := hMs.ext hk102
        replace hRO := hRO.ext hk102
        replace hRS := hRS.ext hk102
        replace hTl := hTl.trans (Kp.ext hk102)
        refine rl (o_not rfl ?_) rfl
        refine rl (o_move (v := .bool (false)) rfl ?_) rfl
        refine rl (o_field rfl fa32_2 ?_) (want_t rfl (rfl))
        refine rl (o_loadB (v := .int .i64 (0)) rfl hBu31 tyS3 rfl ?_) (want_t rfl (rfl))
        refine rl (o_neq rfl rfl ?_) (want_t rfl (rfl))
        refine rl (o_pickF (v := .bool (false)) rfl (rfl) rfl ?_) rfl
        refine rl (o_move (v := .bool (false)) rfl ?_) rfl
        refine rl (o_loadBA (ds := [.int .i64 ((min (max bg 0) 1048576)), .int .i64 (lw.margin), .int .i64 (0), .slice aoO AA.1.length cO]) rfl hBu31 tyA32 rfl rfl ?_) (want_t rfl (rfl))
        refine rl (o_call (lsum_ok _ _ _ _ _ AA.1 _ _ rfl (by omega) hRO) Tryd.call20 (fun v104 w105 hk106 hv107 => ?_)) (want_t rfl (rfl))
        have hl_b1_w105 := hB6.lt
        have hl_b52_w105 := hBu31.lt
        have hs_w105 := hK.size
        have hsk_w105 := hk106.size
        obtain rfl := hv107
        replace hK := hK.trans (Kp.ext hk106)
        replace hB6 := hB6.ext hk106
        replace hBu31 := hBu31.ext hk106
        replace hT := hT.ext hk106
        replace hR := hR.ext hk106
        replace hMs := hMs.ext hk106
        replace hRO := hRO.ext hk106
        replace hRS := hRS.ext hk106
        replace hTl := hTl.trans (Kp.ext hk106)
        refine rl (o_move (v := .int .i64 (bg)) rfl ?_) (want_t rfl (rfl))
        refine rl (o_max rfl rfl ?_) (want_t rfl (rfl))
        refine rl (o_gtr rfl rfl ?_) (want_t rfl (rfl))
        refine rl (o_pickF (v := .bool (decide (max bg 0 < psum AA.1))) rfl (rfl) rfl ?_) rfl
        refine rl (o_move (v := .bool (decide (max bg 0 < psum AA.1))) rfl ?_) rfl
        refine rl (o_field rfl fa32_3 ?_) (want_t rfl ((decide_eq_false (by omega))))
        refine rl (o_loadB (v := .slice aoO AA.1.length cO) rfl hBu31 tyS30 rfl ?_) (want_t rfl ((decide_eq_false (by omega))))
        refine rl (o_len rfl Tryd.underlying30 ?_) (want_t rfl ((decide_eq_false (by omega))))
        refine rl (o_move (v := .slice aoS AA.2.length cS) rfl ?_) (want_t rfl ((decide_eq_false (by omega))))
        refine rl (o_len rfl Tryd.underlying51 ?_) (want_t rfl ((decide_eq_false (by omega))))
        refine rl (o_add64 (a := ((AA.1.length : Nat) : Int)) (b := ((AA.2.length : Nat) : Int)) rfl rfl (by omega) (by omega) ?_) (want_t rfl ((decide_eq_false (by omega))))
        refine rl (o_move (v := .slice am ms.length cm) rfl ?_) (want_t rfl ((decide_eq_false (by omega))))
        refine rl (o_len rfl Tryd.underlying49 ?_) (want_t rfl ((decide_eq_false (by omega))))
        refine rl (o_gtr rfl rfl ?_) (want_t rfl ((decide_eq_false (by omega))))
        refine rl (o_pickF (v := .bool (decide (((ms.length : Nat) : Int) < ((AA.1.length : Nat) : Int) + ((AA.2.length : Nat) : Int)))) rfl ((decide_eq_false (by omega))) rfl ?_) rfl
        refine rl_nil ?_
        refine k_tn ?_
        refine cw_norm [(2, .slice am ms.length cm), (11, .pointer (some ⟨b52, 0, none⟩)), (12, .slice aoS AA.2.length cS), (76, .bool (decide (((ms.length : Nat) : Int) < ((AA.1.length : Nat) : Int) + ((AA.2.length : Nat) : Int))))] ⟨rfl, rfl, rfl, rfl, trivial⟩ (fun ρn108 => ?_)
        refine cw_condKF rfl ((decide_eq_false (by omega))) ?_
        refine cw_skip ?_
        refine k_tn ?_
        refine cw_norm [(2, .slice am ms.length cm), (11, .pointer (some ⟨b52, 0, none⟩)), (12, .slice aoS AA.2.length cS)] ⟨rfl, rfl, rfl, trivial⟩ (fun ρn109 => ?_)
        refine cw_seq ?_
        refine cw_seq ?_
        refine cw_region rfl ?_
        refine rl (o_assign (v := .int .i64 (0)) rfl ?_) rfl
        refine rl_nil ?_
        refine k_tn ?_
        refine cw_norm [(2, .slice am ms.length cm), (11, .pointer (some ⟨b52, 0, none⟩)), (12, .slice aoS AA.2.length cS), (13, .int .i64 (0))] ⟨rfl, rfl, rfl, rfl, trivial⟩ (fun ρn110 => ?_)
        refine cw_block ?_
        refine cw_loop (fun mm ρ' w' => ∃ (ρ0 : Env) (i : Nat), (ρ' = upds ρ0 [(2, .slice am ms.length cm), (11, .pointer (some ⟨b52, 0, none⟩)), (12, .slice aoS AA.2.length cS), (13, .int .i64 ((i : Int)))]) ∧ (mm = ms.length - i) ∧ (i ≤ ms.length) ∧ (Kp Non w w') ∧ (Box w' b1 [.int .i64 (b), .int .i64 (m), .int .i64 (c), .slice ao ps.length cp] 32) ∧ (Box w' b52 [.int .i64 ((min (max bg 0) 1048576)), .int .i64 (lw.margin), .int .i64 (0), .slice aoO AA.1.length cO] 32) ∧ (Tab w') ∧ (Rd (fun b => b < w.heap.size) w' 2 (.slice ao ps.length cp) (ps.map encP)) ∧ (Rd (fun b => b < w.heap.size) w' 2 (.slice am ms.length cm) (ms.map encP)) ∧ (Rd (fun b => (lo65 9) ≤ b ∧ b < (hi66 9)) w' 2 (.slice aoO AA.1.length cO) ((AA.1).map encP)) ∧ (Rd (fun b => (lo65 9) ≤ b ∧ b < (hi66 9)) w' 1 (.slice aoS AA.2.length cS) ((AA.2).map encI)) ∧ (Kp (fun _ => True) w63 w')) (ms.length - (0)) ?_ ?_
        · skip
          exact ⟨_, 0, upds_eq _ _ ⟨rfl, rfl, rfl, rfl, trivial⟩, rfl, Nat.zero_le _, hK, hB6, hBu31, hT, hR, hMs, hRO, hRS, hTl⟩
        · rintro mm ρ1 w111 ⟨ρ0, i, rfl, rfl, hi, hK, hB6, hBu31, hT, hR, hMs, hRO, hRS, hTl⟩
          refine cw_seq ?_
          refine cw_seq ?_
          refine cw_region rfl ?_
          refine rl (o_move (v := .int .i64 ((i : Int))) rfl ?_) rfl
          refine rl (o_move (v := .slice am ms.length cm) rfl ?_) rfl
          refine rl (o_len rfl Tryd.underlying49 ?_) rfl
          refine rl (o_lss rfl rfl ?_) rfl
          refine rl_nil ?_
          refine k_tn ?_
          refine cw_norm [(2, .slice am ms.length cm), (11, .pointer (some ⟨b52, 0, none⟩)), (12, .slice aoS AA.2.length cS), (13, .int .i64 ((i : Int))), (80, .bool (decide ((i : Int) < ((ms.length : Nat) : Int))))] ⟨rfl, rfl, rfl, rfl, rfl, trivial⟩ (fun ρn112 => ?_)
          refine cw_if rfl (fun h113 => ?_) (fun h113 => ?_)
          · skip
            refine cw_skip ?_
            refine k_tn ?_
            refine cw_norm [(2, .slice am ms.length cm), (11, .pointer (some ⟨b52, 0, none⟩)), (12, .slice aoS AA.2.length cS), (13, .int .i64 ((i : Int)))] ⟨rfl, rfl, rfl, rfl, trivial⟩ (fun ρn114 => ?_)
            refine cw_seq ?_
            refine cw_block ?_
            refine cw_seq ?_
            refine cw_seq ?_
            obtain ⟨b9, o9, x9, hao9, hxe, hA9, hlt_b9, hF_b9⟩ := Rd.getF hMs i (by omega)
            replace hF_b9 : b9 < w.heap.size := hF_b9
            have hx9 := hmr x9 (List.mem_of_getElem? hxe)
            refine cw_region rfl ?_
            refine rl (o_move (v := .slice am ms.length cm) rfl ?_) rfl
            refine rl (o_move (v := .int .i64 ((i : Int))) rfl ?_) rfl
            refine rl (o_idxAt i rfl rfl Tryd.underlying49 Tryd.sizeOf56 hao9 (by omega) (by omega) ?_) rfl
            refine rl (o_field rfl fa56_0 ?_) rfl
            refine rl (o_load (v := .int .i64 (x9.car)) rfl tyS3 (hA9 0 _ rfl) ?_) rfl
            refine rl (o_lss rfl rfl ?_) rfl
            refine rl (o_move (v := .bool (decide (x9.car < 0))) rfl ?_) rfl
            by_cases h121 : x9.car < 0
            · skip
              refine rlo ?_ (want_f rfl (decide_eq_true h121) (by decide))
              refine rlo ?_ (want_f rfl (decide_eq_true h121) (by decide))
              refine rlo ?_ (want_f rfl (decide_eq_true h121) (by decide))
              refine rlo ?_ (want_f rfl (decide_eq_true h121) (by decide))
              refine rlo ?_ (want_f rfl (decide_eq_true h121) (by decide))
              refine rlo ?_ (want_f rfl (decide_eq_true h121) (by decide))
              refine rl (o_pickT (v := .bool (true)) rfl (decide_eq_true h121) rfl ?_) rfl
              refine rl_nil ?_
              refine k_tn ?_
              refine cw_norm [(2, .slice am ms.length cm), (11, .pointer (some ⟨b52, 0, none⟩)), (12, .slice aoS AA.2.length cS), (13, .int .i64 ((i : Int))), (96, .bool (true))] ⟨rfl, rfl, rfl, rfl, rfl, trivial⟩ (fun ρn122 => ?_)
              refine cw_condT rfl ?_
              refine cw_exit ?_
              refine k_te ?_
              refine k_bh ?_
              refine k_tn ?_
              refine cw_norm [(2, .slice am ms.length cm), (11, .pointer (some ⟨b52, 0, none⟩)), (12, .slice aoS AA.2.length cS), (13, .int .i64 ((i : Int)))] ⟨rfl, rfl, rfl, rfl, trivial⟩ (fun ρn123 => ?_)
              refine cw_region rfl ?_
              refine rl (o_move (v := .int .i64 ((i : Int))) rfl ?_) rfl
              refine rl (o_add64 (a := (i : Int)) (b := 1) rfl rfl (by omega) (by omega) ?_) rfl
              refine rl (o_assign (v := .int .i64 ((i : Int) + 1)) rfl ?_) rfl
              refine rl_nil ?_
              refine k_tn ?_
              refine ⟨_, ?_, _, i + 1, upds_eq _ _ ⟨rfl, rfl, rfl, rfl, trivial⟩, rfl, (by omega), hK, hB6, hBu31, hT, hR, hMs, hRO, hRS, hTl⟩
              omega
            · skip
              refine rl (o_move (v := .slice am ms.length cm) rfl ?_) (want_t rfl (decide_eq_false h121))
              refine rl (o_move (v := .int .i64 ((i : Int))) rfl ?_) (want_t rfl (decide_eq_false h121))
              refine rl (o_idxAt i rfl rfl Tryd.underlying49 Tryd.sizeOf56 hao9 (by omega) (by omega) ?_) (want_t rfl (decide_eq_false h121))
              refine rl (o_field rfl fa56_0 ?_) (want_t rfl (decide_eq_false h121))
              refine rl (o_load (v := .int .i64 (x9.car)) rfl tyS3 (hA9 0 _ rfl) ?_) (want_t rfl (decide_eq_false h121))
              refine rl (o_gtr rfl rfl ?_) (want_t rfl (decide_eq_false h121))
              refine rl (o_pickF (v := .bool (decide (63 < x9.car))) rfl (decide_eq_false h121) rfl ?_) rfl
              refine rl_nil ?_
              refine k_tn ?_
              refine cw_norm [(2, .slice am ms.length cm), (11, .pointer (some ⟨b52, 0, none⟩)), (12, .slice aoS AA.2.length cS), (13, .int .i64 ((i : Int))), (96, .bool (decide (63 < x9.car)))] ⟨rfl, rfl, rfl, rfl, rfl, trivial⟩ (fun ρn130 => ?_)
              refine cw_if rfl (fun h131 => ?_) (fun h131 => ?_)
              · skip
                refine cw_exit ?_
                refine k_te ?_
                refine k_bh ?_
                refine k_tn ?_
                refine cw_norm [(2, .slice am ms.length cm), (11, .pointer (some ⟨b52, 0, none⟩)), (12, .slice aoS AA.2.length cS), (13, .int .i64 ((i : Int)))] ⟨rfl, rfl, rfl, rfl, trivial⟩ (fun ρn132 => ?_)
                refine cw_region rfl ?_
                refine rl (o_move (v := .int .i64 ((i : Int))) rfl ?_) rfl
                refine rl (o_add64 (a := (i : Int)) (b := 1) rfl rfl (by omega) (by omega) ?_) rfl
                refine rl (o_assign (v := .int .i64 ((i : Int) + 1)) rfl ?_) rfl
                refine rl_nil ?_
                refine k_tn ?_
                refine ⟨_, ?_, _, i + 1, upds_eq _ _ ⟨rfl, rfl, rfl, rfl, trivial⟩, rfl, (by omega), hK, hB6, hBu31, hT, hR, hMs, hRO, hRS, hTl⟩
                omega
              · skip
                refine cw_skip ?_
                refine k_tn ?_
                refine cw_norm [(2, .slice am ms.length cm), (11, .pointer (some ⟨b52, 0, none⟩)), (12, .slice aoS AA.2.length cS), (13, .int .i64 ((i : Int)))] ⟨rfl, rfl, rfl, rfl, trivial⟩ (fun ρn133 => ?_)
                refine cw_seq ?_
                refine cw_region rfl ?_
                refine rl (o_assign (v := .bool (true)) rfl ?_) rfl
                refine rl_nil ?_
                refine k_tn ?_
                refine cw_norm [(2, .slice am ms.length cm), (11, .pointer (some ⟨b52, 0, none⟩)), (12, .slice aoS AA.2.length cS), (13, .int .i64 ((i : Int))), (14, .bool (true))] ⟨rfl, rfl, rfl, rfl, rfl, trivial⟩ (fun ρn134 => ?_)
                refine cw_seq ?_
                refine cw_seq ?_
                refine cw_region rfl ?_
                refine rl (o_assign (v := .int .i64 (0)) rfl ?_) rfl
                refine rl_nil ?_
                refine k_tn ?_
                refine cw_norm [(2, .slice am ms.length cm), (11, .pointer (some ⟨b52, 0, none⟩)), (12, .slice aoS AA.2.length cS), (13, .int .i64 ((i : Int))), (14, .bool (true)), (15, .int .i64 (0))] ⟨rfl, rfl, rfl, rfl, rfl, rfl, trivial⟩ (fun ρn135 => ?_)
                refine cw_block ?_
                refine cw_loop (fun mm ρ' w' => ∃ (ρ0 : Env) (k : Nat) (fs : Bool), (ρ' = upds ρ0 [(2, .slice am ms.length cm), (11, .pointer (some ⟨b52, 0, none⟩)), (12, .slice aoS AA.2.length cS), (13, .int .i64 ((i : Int))), (14, .bool (fs)), (15, .int .i64 ((k : Int)))]) ∧ (mm = i - k) ∧ (k ≤ i) ∧ (fs = true ↔ ∀ k0 m0, k0 < k → ms[k0]? = some m0 → m0.car ≠ x9.car) ∧ (Kp Non w w') ∧ (Box w' b1 [.int .i64 (b), .int .i64 (m), .int .i64 (c), .slice ao ps.length cp] 32) ∧ (Box w' b52 [.int .i64 ((min (max bg 0) 1048576)), .int .i64 (lw.margin), .int .i64 (0), .slice aoO AA.1.length cO] 32) ∧ (Tab w') ∧ (Rd (fun b => b < w.heap.size) w' 2 (.slice ao ps.length cp) (ps.map encP)) ∧ (Rd (fun b => b < w.heap.size) w' 2 (.slice am ms.length cm) (ms.map encP)) ∧ (Rd (fun b => (lo65 9) ≤ b ∧ b < (hi66 9)) w' 2 (.slice aoO AA.1.length cO) ((AA.1).map encP)) ∧ (Rd (fun b => (lo65 9) ≤ b ∧ b < (hi66 9)) w' 1 (.slice aoS AA.2.length cS) ((AA.2).map encI)) ∧ (Kp (fun _ => True) w63 w')) (i - (0)) ?_ ?_
                · skip
                  exact ⟨_, 0, true, upds_eq _ _ ⟨rfl, rfl, rfl, rfl, rfl, rfl, trivial⟩, rfl, Nat.zero_le _, (by simp), hK, hB6, hBu31, hT, hR, hMs, hRO, hRS, hTl⟩
                · rintro mm ρ1 w136 ⟨ρ0, k, fs, rfl, rfl, hki, hfs, hK, hB6, hBu31, hT, hR, hMs, hRO, hRS, hTl⟩
                  refine cw_seq ?_
                  refine cw_seq ?_
                  refine cw_region rfl ?_
                  refine rl (o_move (v := .int .i64 ((k : Int))) rfl ?_) rfl
                  refine rl (o_move (v := .int .i64 ((i : Int))) rfl ?_) rfl
                  refine rl (o_lss rfl rfl ?_) rfl
                  refine rl_nil ?_
                  refine k_tn ?_
                  refine cw_norm [(2, .slice am ms.length cm), (11, .pointer (some ⟨b52, 0, none⟩)), (12, .slice aoS AA.2.length cS), (13, .int .i64 ((i : Int))), (14, .bool (fs)), (15, .int .i64 ((k : Int))), (99, .bool (decide ((k : Int) < (i : Int))))] ⟨rfl, rfl, rfl, rfl, rfl, rfl, rfl, trivial⟩ (fun ρn137 => ?_)
                  refine cw_if rfl (fun h138 => ?_) (fun h138 => ?_)
                  · skip
                    refine cw_skip ?_
                    refine k_tn ?_
                    refine cw_norm [(2, .slice am ms.length cm), (11, .pointer (some ⟨b52, 0, none⟩)), (12, .slice aoS AA.2.length cS), (13, .int .i64 ((i : Int))), (14, .bool (fs)), (15, .int .i64 ((k : Int)))] ⟨rfl, rfl, rfl, rfl, rfl, rfl, trivial⟩ (fun ρn139 => ?_)
                    refine cw_seq ?_
                    refine cw_block ?_
                    obtain ⟨bz140, oz140, yz140, haoz140, hyez140, hAz140, hlt_bz140, hF_bz140⟩ := Rd.getF hMs i (by omega)
                    replace hF_bz140 : bz140 < w.heap.size := hF_bz140
                    obtain hxy : x9 = yz140 := Option.some.inj (hxe.symm.trans hyez140)
                    subst hxy
                    obtain ⟨b7, o7, x7, hao7, hx7, hA7, hlt_b7, hF_b7⟩ := Rd.getF hMs k (by omega)
                    replace hF_b7 : b7 < w.heap.size := hF_b7
                    rcases Bool.eq_false_or_eq_true fs with h142 | h142
                    · skip
                      have ht_hTl_d2 := hTl.size
                      have hl_b1_d2 := hB6.lt
                      have hl_b52_d2 := hBu31.lt
                      refine cw_norm [(2, .slice am ms.length cm), (11, .pointer (some ⟨b52, 0, none⟩)), (12, .slice aoS AA.2.length cS), (13, .int .i64 ((i : Int))), (14, .bool (fs)), (15, .int .i64 ((k : Int)))] ⟨rfl, rfl, rfl, rfl, rfl, rfl, trivial⟩ (fun ρr156 => ?_)
                      have hsr2 := hK.size
                      refine cw_drawnK1 (fun _ => False) (fun _ _ _ => False) 15 [.val (.bool (fs)), .val (.bool (fs)), .val (.slice am ms.length cm), .val (.int .i64 ((k : Int))), .val (.pointer (some ⟨b7, o7 + k * 2, none⟩)), .val (.pointer (some ⟨b7, o7 + k * 2, none⟩)), .val (.int .i64 (x7.car)), .val (.slice am ms.length cm), .val (.int .i64 ((i : Int))), .val (.pointer (some ⟨bz140, oz140 + i * 2, none⟩)), .val (.pointer (some ⟨bz140, oz140 + i * 2, none⟩)), .val (.int .i64 (x9.car))] [.val (.bool (fs)), .val (.bool (fs)), .val (.slice am ms.length cm), .val (.int .i64 ((k : Int))), .val (.pointer (some ⟨b7, o7 + k * 2, none⟩)), .val (.pointer (some ⟨b7, o7 + k * 2, none⟩)), .val (.int .i64 (x7.car)), .val (.slice am ms.length cm), .val (.int .i64 ((i : Int))), .val (.pointer (some ⟨bz140, oz140 + i * 2, none⟩)), .val (.pointer (some ⟨bz140, oz140 + i * 2, none⟩)), .val (.int .i64 (x9.car))] [[], [0], [0, 1], [0, 1], [0, 1, 2, 3], [0, 1, 2, 3, 4], [0, 1, 2, 3, 4, 5], [0, 1], [0, 1], [0, 1, 7, 8], [0, 1, 7, 8, 9], [0, 1, 7, 8, 9, 10], [0, 1, 2, 3, 4, 5, 6, 7, 8, 9, 10, 11], [0, 1, 2, 3, 4, 5, 6, 7, 8, 9, 10, 11, 12], [0, 1, 2, 3, 4, 5, 6, 7, 8, 9, 10, 11, 12, 13]] 12 mixed (by kernel_rfl) (fun _ _ _ _ _ h => h) ⟨upK_val, upK_val, upK_val, upK_val, upK_val, upK_val, upK_val, upK_val, upK_val, upK_val, upK_val, upK_val, trivial⟩ ⟨⟨⟨⟨⟨⟨⟨⟨⟨⟨⟨⟨trivial, ?_⟩, ?_⟩, ?_⟩, ?_⟩, ?_⟩, ?_⟩, ?_⟩, ?_⟩, ?_⟩, ?_⟩, ?_⟩, ?_⟩ (fun w157 vs158 lo159 hi160 hE161 hkn162 hap163 => ?_)
                      · refine oblK_post rfl rfl (fun w157k vs lo hi hE hkn hap => ?_)
                        have hEs := hE.size
                        replace hK := hK.trans (Kp.ext hE)
                        replace hB6 := hB6.ext hE
                        replace hBu31 := hBu31.ext hE
                        replace hT := hT.ext hE
                        replace hR := hR.ext hE
                        replace hMs := hMs.ext hE
                        replace hRO := hRO.ext hE
                        replace hRS := hRS.ext hE
                        replace hTl := hTl.trans (Kp.ext hE)
                        replace hAz140 := At.ext hAz140 hE
                        replace hA7 := At.ext hA7 hE
                        refine oblK_n rfl ?_
                        refine opk_norm [(14, .bool (fs))] ⟨rfl, trivial⟩ (fun ρq => ?_)
                        refine o_move (v := .bool (fs)) rfl ?_
                        exact ⟨Kp.refl _ _, rfl⟩
                      · refine oblK_post rfl rfl (fun w157k vs lo hi hE hkn hap => ?_)
                        have hEs := hE.size
                        replace hK := hK.trans (Kp.ext hE)
                        replace hB6 := hB6.ext hE
                        replace hBu31 := hBu31.ext hE
                        replace hT := hT.ext hE
                        replace hR := hR.ext hE
                        replace hMs := hMs.ext hE
                        replace hRO := hRO.ext hE
                        replace hRS := hRS.ext hE
                        replace hTl := hTl.trans (Kp.ext hE)
                        replace hAz140 := At.ext hAz140 hE
                        replace hA7 := At.ext hA7 hE
                        refine oblK_n rfl ?_
                        refine opk_norm [(102, .bool (fs))] ⟨rfl, trivial⟩ (fun ρq => ?_)
                        refine o_move (v := .bool (fs)) rfl ?_
                        exact ⟨Kp.refl _ _, rfl⟩
                      · refine oblK_post rfl rfl (fun w157k vs lo hi hE hkn hap => ?_)
                        have hEs := hE.size
                        replace hK := hK.trans (Kp.ext hE)
                        replace hB6 := hB6.ext hE
                        replace hBu31 := hBu31.ext hE
                        replace hT := hT.ext hE
                        replace hR := hR.ext hE
                        replace hMs := hMs.ext hE
                        replace hRO := hRO.ext hE
                        replace hRS := hRS.ext hE
                        replace hTl := hTl.trans (Kp.ext hE)
                        replace hAz140 := At.ext hAz140 hE
                        replace hA7 := At.ext hA7 hE
                        refine oblK_n (want_t rfl (h142)) ?_
                        refine opk_norm [(2, .slice am ms.length cm), (103, .bool (fs))] ⟨rfl, rfl, trivial⟩ (fun ρq => ?_)
                        refine o_move (v := .slice am ms.length cm) rfl ?_
                        exact ⟨Kp.refl _ _, rfl⟩
                      · refine oblK_post rfl rfl (fun w157k vs lo hi hE hkn hap => ?_)
                        have hEs := hE.size
                        replace hK := hK.trans (Kp.ext hE)
                        replace hB6 := hB6.ext hE
                        replace hBu31 := hBu31.ext hE
                        replace hT := hT.ext hE
                        replace hR := hR.ext hE
                        replace hMs := hMs.ext hE
                        replace hRO := hRO.ext hE
                        replace hRS := hRS.ext hE
                        replace hTl := hTl.trans (Kp.ext hE)
                        replace hAz140 := At.ext hAz140 hE
                        replace hA7 := At.ext hA7 hE
                        refine oblK_n (want_t rfl (h142)) ?_
                        refine opk_norm [(15, .int .i64 ((k : Int))), (103, .bool (fs))] ⟨rfl, rfl, trivial⟩ (fun ρq => ?_)
                        refine o_move (v := .int .i64 ((k : Int))) rfl ?_
                        exact ⟨Kp.refl _ _, rfl⟩
                      · refine oblK_post rfl rfl (fun w157k vs lo hi hE hkn hap => ?_)
                        have hEs := hE.size
                        replace hK := hK.trans (Kp.ext hE)
                        replace hB6 := hB6.ext hE
                        replace hBu31 := hBu31.ext hE
                        replace hT := hT.ext hE
                        replace hR := hR.ext hE
                        replace hMs := hMs.ext hE
                        replace hRO := hRO.ext hE
                        replace hRS := hRS.ext hE
                        replace hTl := hTl.trans (Kp.ext hE)
                        replace hAz140 := At.ext hAz140 hE
                        replace hA7 := At.ext hA7 hE
                        refine oblK_n (want_t rfl (h142)) ?_
                        refine opk_norm [(103, .bool (fs)), (104, .slice am ms.length cm), (105, .int .i64 ((k : Int)))] ⟨rfl, rfl, rfl, trivial⟩ (fun ρq => ?_)
                        refine o_idxAt k rfl rfl Tryd.underlying49 Tryd.sizeOf56 hao7 (by omega) (by omega) ?_
                        exact ⟨Kp.refl _ _, rfl⟩
                      · refine oblK_post rfl rfl (fun w157k vs lo hi hE hkn hap => ?_)
                        have hEs := hE.size
                        replace hK := hK.trans (Kp.ext hE)
                        replace hB6 := hB6.ext hE
                        replace hBu31 := hBu31.ext hE
                        replace hT := hT.ext hE
                        replace hR := hR.ext hE
                        replace hMs := hMs.ext hE
                        replace hRO := hRO.ext hE
                        replace hRS := hRS.ext hE
                        replace hTl := hTl.trans (Kp.ext hE)
                        replace hAz140 := At.ext hAz140 hE
                        replace hA7 := At.ext hA7 hE
                        refine oblK_n (want_t rfl (h142)) ?_
                        refine opk_norm [(103, .bool (fs)), (106, .pointer (some ⟨b7, o7 + k * 2, none⟩))] ⟨rfl, rfl, trivial⟩ (fun ρq => ?_)
                        refine o_field rfl fa56_0 ?_
                        exact ⟨Kp.refl _ _, rfl⟩
                      · refine oblK_post rfl rfl (fun w157k vs lo hi hE hkn hap => ?_)
                        have hEs := hE.size
                        replace hK := hK.trans (Kp.ext hE)
                        replace hB6 := hB6.ext hE
                        replace hBu31 := hBu31.ext hE
                        replace hT := hT.ext hE
                        replace hR := hR.ext hE
                        replace hMs := hMs.ext hE
                        replace hRO := hRO.ext hE
                        replace hRS := hRS.ext hE
                        replace hTl := hTl.trans (Kp.ext hE)
                        replace hAz140 := At.ext hAz140 hE
                        replace hA7 := At.ext hA7 hE
                        refine oblK_n (want_t rfl (h142)) ?_
                        refine opk_norm [(103, .bool (fs)), (107, .pointer (some ⟨b7, o7 + k * 2, none⟩))] ⟨rfl, rfl, trivial⟩ (fun ρq => ?_)
                        refine o_load (v := .int .i64 (x7.car)) rfl tyS3 (hA7 0 _ rfl) ?_
                        exact ⟨Kp.refl _ _, rfl⟩
                      · refine oblK_post rfl rfl (fun w157k vs lo hi hE hkn hap => ?_)
                        have hEs := hE.size
                        replace hK := hK.trans (Kp.ext hE)
                        replace hB6 := hB6.ext hE
                        replace hBu31 := hBu31.ext hE
                        replace hT := hT.ext hE
                        replace hR := hR.ext hE
                        replace hMs := hMs.ext hE
                        replace hRO := hRO.ext hE
                        replace hRS := hRS.ext hE
                        replace hTl := hTl.trans (Kp.ext hE)
                        replace hAz140 := At.ext hAz140 hE
                        replace hA7 := At.ext hA7 hE
                        refine oblK_n (want_t rfl (h142)) ?_
                        refine opk_norm [(2, .slice am ms.length cm), (103, .bool (fs))] ⟨rfl, rfl, trivial⟩ (fun ρq => ?_)
                        refine o_move (v := .slice am ms.length cm) rfl ?_
                        exact ⟨Kp.refl _ _, rfl⟩
                      · refine oblK_post rfl rfl (fun w157k vs lo hi hE hkn hap => ?_)
                        have hEs := hE.size
                        replace hK := hK.trans (Kp.ext hE)
                        replace hB6 := hB6.ext hE
                        replace hBu31 := hBu31.ext hE
                        replace hT := hT.ext hE
                        replace hR := hR.ext hE
                        replace hMs := hMs.ext hE
                        replace hRO := hRO.ext hE
                        replace hRS := hRS.ext hE
                        replace hTl := hTl.trans (Kp.ext hE)
                        replace hAz140 := At.ext hAz140 hE
                        replace hA7 := At.ext hA7 hE
                        refine oblK_n (want_t rfl (h142)) ?_
                        refine opk_norm [(13, .int .i64 ((i : Int))), (103, .bool (fs))] ⟨rfl, rfl, trivial⟩ (fun ρq => ?_)
                        refine o_move (v := .int .i64 ((i : Int))) rfl ?_
                        exact ⟨Kp.refl _ _, rfl⟩
                      · refine oblK_post rfl rfl (fun w157k vs lo hi hE hkn hap => ?_)
                        have hEs := hE.size
                        replace hK := hK.trans (Kp.ext hE)
                        replace hB6 := hB6.ext hE
                        replace hBu31 := hBu31.ext hE
                        replace hT := hT.ext hE
                        replace hR := hR.ext hE
                        replace hMs := hMs.ext hE
                        replace hRO := hRO.ext hE
                        replace hRS := hRS.ext hE
                        replace hTl := hTl.trans (Kp.ext hE)
                        replace hAz140 := At.ext hAz140 hE
                        replace hA7 := At.ext hA7 hE
                        refine oblK_n (want_t rfl (h142)) ?_
                        refine opk_norm [(103, .bool (fs)), (109, .slice am ms.length cm), (110, .int .i64 ((i : Int)))] ⟨rfl, rfl, rfl, trivial⟩ (fun ρq => ?_)
                        refine o_idxAt i rfl rfl Tryd.underlying49 Tryd.sizeOf56 haoz140 (by omega) (by omega) ?_
                        exact ⟨Kp.refl _ _, rfl⟩
                      · refine oblK_post rfl rfl (fun w157k vs lo hi hE hkn hap => ?_)
                        have hEs := hE.size
                        replace hK := hK.trans (Kp.ext hE)
                        replace hB6 := hB6.ext hE
                        replace hBu31 := hBu31.ext hE
                        replace hT := hT.ext hE
                        replace hR := hR.ext hE
                        replace hMs := hMs.ext hE
                        replace hRO := hRO.ext hE
                        replace hRS := hRS.ext hE
                        replace hTl := hTl.trans (Kp.ext hE)
                        replace hAz140 := At.ext hAz140 hE
                        replace hA7 := At.ext hA7 hE
                        refine oblK_n (want_t rfl (h142)) ?_
                        refine opk_norm [(103, .bool (fs)), (111, .pointer (some ⟨bz140, oz140 + i * 2, none⟩))] ⟨rfl, rfl, trivial⟩ (fun ρq => ?_)
                        refine o_field rfl fa56_0 ?_
                        exact ⟨Kp.refl _ _, rfl⟩
                      · refine oblK_post rfl rfl (fun w157k vs lo hi hE hkn hap => ?_)
                        have hEs := hE.size
                        replace hK := hK.trans (Kp.ext hE)
                        replace hB6 := hB6.ext hE
                        replace hBu31 := hBu31.ext hE
                        replace hT := hT.ext hE
                        replace hR := hR.ext hE
                        replace hMs := hMs.ext hE
                        replace hRO := hRO.ext hE
                        replace hRS := hRS.ext hE
                        replace hTl := hTl.trans (Kp.ext hE)
                        replace hAz140 := At.ext hAz140 hE
                        replace hA7 := At.ext hA7 hE
                        refine oblK_n (want_t rfl (h142)) ?_
                        refine opk_norm [(103, .bool (fs)), (112, .pointer (some ⟨bz140, oz140 + i * 2, none⟩))] ⟨rfl, rfl, trivial⟩ (fun ρq => ?_)
                        refine o_load (v := .int .i64 (x9.car)) rfl tyS3 (hAz140 0 _ rfl) ?_
                        exact ⟨Kp.refl _ _, rfl⟩
                      have hsE2 := hE161.size
                      replace hK := hK.trans (Kp.ext hE161)
                      replace hB6 := hB6.ext hE161
                      replace hBu31 := hBu31.ext hE161
                      replace hT := hT.ext hE161
                      replace hR := hR.ext hE161
                      replace hMs := hMs.ext hE161
                      replace hRO := hRO.ext hE161
                      replace hRS := hRS.ext hE161
                      replace hTl := hTl.trans (Kp.ext hE161)
                      replace hAz140 := At.ext hAz140 hE161
                      replace hA7 := At.ext hA7 hE161
                      refine rl_norm [(2, .slice am ms.length cm), (11, .pointer (some ⟨b52, 0, none⟩)), (12, .slice aoS AA.2.length cS), (13, .int .i64 ((i : Int))), (15, .int .i64 ((k : Int))), (103, .bool (fs)), (108, .int .i64 (x7.car)), (113, .int .i64 (x9.car))] ⟨rfl, rfl, rfl, rfl, rfl, rfl, rfl, rfl, trivial⟩ (fun ρr156q => ?_)
                      refine rl (o_neq rfl rfl ?_) (want_t rfl (h142))
                      refine rl (o_pickT (v := .bool (decide (x7.car ≠ x9.car))) rfl (h142) rfl ?_) rfl
                      refine rl (o_assign (v := .bool (decide (x7.car ≠ x9.car))) rfl ?_) rfl
                      refine rl_nil ?_
                      refine k_bn ?_
                      refine k_tn ?_
                      refine cw_norm [(2, .slice am ms.length cm), (11, .pointer (some ⟨b52, 0, none⟩)), (12, .slice aoS AA.2.length cS), (13, .int .i64 ((i : Int))), (14, .bool (decide (x7.car ≠ x9.car))), (15, .int .i64 ((k : Int)))] ⟨rfl, rfl, rfl, rfl, rfl, rfl, trivial⟩ (fun ρn176 => ?_)
                      refine cw_region rfl ?_
                      refine rl (o_move (v := .int .i64 ((k : Int))) rfl ?_) rfl
                      refine rl (o_add64 (a := (k : Int)) (b := 1) rfl rfl (by omega) (by omega) ?_) rfl
                      refine rl (o_assign (v := .int .i64 ((k : Int) + 1)) rfl ?_) rfl
                      refine rl_nil ?_
                      refine k_tn ?_
                      refine ⟨_, ?_, _, k + 1, decide (x7.car ≠ x9.car), upds_eq _ _ ⟨rfl, rfl, rfl, rfl, rfl, rfl, trivial⟩, rfl, (by omega), (fst_step hx7 hfs (by rw [h142]; rfl)), hK, hB6, hBu31, hT, hR, hMs, hRO, hRS, hTl⟩
                      omega
                    · skip
                      have ht_hTl_d3 := hTl.size
                      have hl_b1_d3 := hB6.lt
                      have hl_b52_d3 := hBu31.lt
                      refine cw_norm [(2, .slice am ms.length cm), (11, .pointer (some ⟨b52, 0, none⟩)), (12, .slice aoS AA.2.length cS), (13, .int .i64 ((i : Int))), (14, .bool (fs)), (15, .int .i64 ((k : Int)))] ⟨rfl, rfl, rfl, rfl, rfl, rfl, trivial⟩ (fun ρr178 => ?_)
                      have hsr3 := hK.size
                      refine cw_drawnK1 (fun _ => False) (fun _ _ _ => False) 15 [.val (.bool (fs)), .val (.bool (fs)), .val (undef), .val (undef), .val (undef), .val (undef), .val (undef), .val (undef), .val (undef), .val (undef), .val (undef), .val (undef)] [.val (.bool (fs)), .val (.bool (fs)), .val (undef), .val (undef), .val (undef), .val (undef), .val (undef), .val (undef), .val (undef), .val (undef), .val (undef), .val (undef)] [[], [0], [0, 1], [0, 1], [0, 1, 2, 3], [0, 1, 2, 3, 4], [0, 1, 2, 3, 4, 5], [0, 1], [0, 1], [0, 1, 7, 8], [0, 1, 7, 8, 9], [0, 1, 7, 8, 9, 10], [0, 1, 2, 3, 4, 5, 6, 7, 8, 9, 10, 11], [0, 1, 2, 3, 4, 5, 6, 7, 8, 9, 10, 11, 12], [0, 1, 2, 3, 4, 5, 6, 7, 8, 9, 10, 11, 12, 13]] 12 mixed (by kernel_rfl) (fun _ _ _ _ _ h => h) ⟨upK_val, upK_val, upK_val, upK_val, upK_val, upK_val, upK_val, upK_val, upK_val, upK_val, upK_val, upK_val, trivial⟩ ⟨⟨⟨⟨⟨⟨⟨⟨⟨⟨⟨⟨trivial, ?_⟩, ?_⟩, ?_⟩, ?_⟩, ?_⟩, ?_⟩, ?_⟩, ?_⟩, ?_⟩, ?_⟩, ?_⟩, ?_⟩ (fun w179 vs180 lo181 hi182 hE183 hkn184 hap185 => ?_)
                      · refine oblK_post rfl rfl (fun w179k vs lo hi hE hkn hap => ?_)
                        have hEs := hE.size
                        replace hK := hK.trans (Kp.ext hE)
                        replace hB6 := hB6.ext hE
                        replace hBu31 := hBu31.ext hE
                        replace hT := hT.ext hE
                        replace hR := hR.ext hE
                        replace hMs := hMs.ext hE
                        replace hRO := hRO.ext hE
                        replace hRS := hRS.ext hE
                        replace hTl := hTl.trans (Kp.ext hE)
                        replace hAz140 := At.ext hAz140 hE
                        replace hA7 := At.ext hA7 hE
                        refine oblK_n rfl ?_
                        refine opk_norm [(14, .bool (fs))] ⟨rfl, trivial⟩ (fun ρq => ?_)
                        refine o_move (v := .bool (fs)) rfl ?_
                        exact ⟨Kp.refl _ _, rfl⟩
                      · refine oblK_post rfl rfl (fun w179k vs lo hi hE hkn hap => ?_)
                        have hEs := hE.size
                        replace hK := hK.trans (Kp.ext hE)
                        replace hB6 := hB6.ext hE
                        replace hBu31 := hBu31.ext hE
                        replace hT := hT.ext hE
                        replace hR := hR.ext hE
                        replace hMs := hMs.ext hE
                        replace hRO := hRO.ext hE
                        replace hRS := hRS.ext hE
                        replace hTl := hTl.trans (Kp.ext hE)
                        replace hAz140 := At.ext hAz140 hE
                        replace hA7 := At.ext hA7 hE
                        refine oblK_n rfl ?_
                        refine opk_norm [(102, .bool (fs))] ⟨rfl, trivial⟩ (fun ρq => ?_)
                        refine o_move (v := .bool (fs)) rfl ?_
                        exact ⟨Kp.refl _ _, rfl⟩
                      · refine oblK_post rfl rfl (fun w179k vs lo hi hE hkn hap => ?_)
                        exact oblK_nf rfl (want_f rfl (h142) (by decide))
                      · refine oblK_post rfl rfl (fun w179k vs lo hi hE hkn hap => ?_)
                        exact oblK_nf rfl (want_f rfl (h142) (by decide))
                      · refine oblK_post rfl rfl (fun w179k vs lo hi hE hkn hap => ?_)
                        exact oblK_nf rfl (want_f rfl (h142) (by decide))
                      · refine oblK_post rfl rfl (fun w179k vs lo hi hE hkn hap => ?_)
                        exact oblK_nf rfl (want_f rfl (h142) (by decide))
                      · refine oblK_post rfl rfl (fun w179k vs lo hi hE hkn hap => ?_)
                        exact oblK_nf rfl (want_f rfl (h142) (by decide))
                      · refine oblK_post rfl rfl (fun w179k vs lo hi hE hkn hap => ?_)
                        exact oblK_nf rfl (want_f rfl (h142) (by decide))
                      · refine oblK_post rfl rfl (fun w179k vs lo hi hE hkn hap => ?_)
                        exact oblK_nf rfl (want_f rfl (h142) (by decide))
                      · refine oblK_post rfl rfl (fun w179k vs lo hi hE hkn hap => ?_)
                        exact oblK_nf rfl (want_f rfl (h142) (by decide))
                      · refine oblK_post rfl rfl (fun w179k vs lo hi hE hkn hap => ?_)
                        exact oblK_nf rfl (want_f rfl (h142) (by decide))
                      · refine oblK_post rfl rfl (fun w179k vs lo hi hE hkn hap => ?_)
                        exact oblK_nf rfl (want_f rfl (h142) (by decide))
                      have hsE3 := hE183.size
                      replace hK := hK.trans (Kp.ext hE183)
                      replace hB6 := hB6.ext hE183
                      replace hBu31 := hBu31.ext hE183
                      replace hT := hT.ext hE183
                      replace hR := hR.ext hE183
                      replace hMs := hMs.ext hE183
                      replace hRO := hRO.ext hE183
                      replace hRS := hRS.ext hE183
                      replace hTl := hTl.trans (Kp.ext hE183)
                      replace hAz140 := At.ext hAz140 hE183
                      replace hA7 := At.ext hA7 hE183
                      refine rl_norm [(2, .slice am ms.length cm), (11, .pointer (some ⟨b52, 0, none⟩)), (12, .slice aoS AA.2.length cS), (13, .int .i64 ((i : Int))), (15, .int .i64 ((k : Int))), (103, .bool (fs))] ⟨rfl, rfl, rfl, rfl, rfl, rfl, trivial⟩ (fun ρr178q => ?_)
                      refine rlo ?_ (want_f rfl (h142) (by decide))
                      refine rl (o_pickF (v := .bool (false)) rfl (h142) rfl ?_) rfl
                      refine rl (o_assign (v := .bool (false)) rfl ?_) rfl
                      refine rl_nil ?_
                      refine k_bn ?_
                      refine k_tn ?_
                      refine cw_norm [(2, .slice am ms.length cm), (11, .pointer (some ⟨b52, 0, none⟩)), (12, .slice aoS AA.2.length cS), (13, .int .i64 ((i : Int))), (14, .bool (false)), (15, .int .i64 ((k : Int)))] ⟨rfl, rfl, rfl, rfl, rfl, rfl, trivial⟩ (fun ρn186 => ?_)
                      refine cw_region rfl ?_
                      refine rl (o_move (v := .int .i64 ((k : Int))) rfl ?_) rfl
                      refine rl (o_add64 (a := (k : Int)) (b := 1) rfl rfl (by omega) (by omega) ?_) rfl
                      refine rl (o_assign (v := .int .i64 ((k : Int) + 1)) rfl ?_) rfl
                      refine rl_nil ?_
                      refine k_tn ?_
                      refine ⟨_, ?_, _, k + 1, false, upds_eq _ _ ⟨rfl, rfl, rfl, rfl, rfl, rfl, trivial⟩, rfl, (by omega), (fst_step hx7 hfs (by rw [h142]; rfl)), hK, hB6, hBu31, hT, hR, hMs, hRO, hRS, hTl⟩
                      omega
                  · skip
                    refine cw_exit ?_
                    refine k_te ?_
                    refine k_te ?_
                    refine k_bh ?_
                    refine k_tn ?_
                    refine cw_norm [(2, .slice am ms.length cm), (11, .pointer (some ⟨b52, 0, none⟩)), (12, .slice aoS AA.2.length cS), (13, .int .i64 ((i : Int))), (14, .bool (fs))] ⟨rfl, rfl, rfl, rfl, rfl, trivial⟩ (fun ρn187 => ?_)
                    refine cw_seq ?_
                    refine cw_seq ?_
                    refine cw_region rfl ?_
                    refine rl (o_move (v := .bool (fs)) rfl ?_) rfl
                    refine rl (o_not rfl ?_) rfl
                    refine rl_nil ?_
                    refine k_tn ?_
                    refine cw_norm [(2, .slice am ms.length cm), (11, .pointer (some ⟨b52, 0, none⟩)), (12, .slice aoS AA.2.length cS), (13, .int .i64 ((i : Int))), (117, .bool (!fs))] ⟨rfl, rfl, rfl, rfl, rfl, trivial⟩ (fun ρn188 => ?_)
                    refine cw_cond rfl (fun h189 => ?_) (fun h189 => ?_)
                    · skip
                      refine cw_exit ?_
                      refine k_te ?_
                      refine k_bh ?_
                      refine k_tn ?_
                      refine cw_norm [(2, .slice am ms.length cm), (11, .pointer (some ⟨b52, 0, none⟩)), (12, .slice aoS AA.2.length cS), (13, .int .i64 ((i : Int)))] ⟨rfl, rfl, rfl, rfl, trivial⟩ (fun ρn190 => ?_)
                      refine cw_region rfl ?_
                      refine rl (o_move (v := .int .i64 ((i : Int))) rfl ?_) rfl
                      refine rl (o_add64 (a := (i : Int)) (b := 1) rfl rfl (by omega) (by omega) ?_) rfl
                      refine rl (o_assign (v := .int .i64 ((i : Int) + 1)) rfl ?_) rfl
                      refine rl_nil ?_
                      refine k_tn ?_
                      refine ⟨_, ?_, _, i + 1, upds_eq _ _ ⟨rfl, rfl, rfl, rfl, trivial⟩, rfl, (by omega), hK, hB6, hBu31, hT, hR, hMs, hRO, hRS, hTl⟩
                      omega
                    · skip
                      refine cw_skip ?_
                      refine k_tn ?_
                      refine cw_norm [(2, .slice am ms.length cm), (11, .pointer (some ⟨b52, 0, none⟩)), (12, .slice aoS AA.2.length cS), (13, .int .i64 ((i : Int)))] ⟨rfl, rfl, rfl, rfl, trivial⟩ (fun ρn191 => ?_)
                      refine cw_seq ?_
                      refine cw_region rfl ?_
                      refine rl (o_assign (v := .bool (false)) rfl ?_) rfl
                      refine rl_nil ?_
                      refine k_tn ?_
                      refine cw_norm [(2, .slice am ms.length cm), (11, .pointer (some ⟨b52, 0, none⟩)), (12, .slice aoS AA.2.length cS), (13, .int .i64 ((i : Int))), (16, .bool (false))] ⟨rfl, rfl, rfl, rfl, rfl, trivial⟩ (fun ρn192 => ?_)
                      refine cw_seq ?_
                      refine cw_seq ?_
                      refine cw_region rfl ?_
                      refine rl (o_assign (v := .int .i64 (0)) rfl ?_) rfl
                      refine rl_nil ?_
                      refine k_tn ?_
                      refine cw_norm [(2, .slice am ms.length cm), (11, .pointer (some ⟨b52, 0, none⟩)), (12, .slice aoS AA.2.length cS), (13, .int .i64 ((i : Int))), (16, .bool (false)), (17, .int .i64 (0))] ⟨rfl, rfl, rfl, rfl, rfl, rfl, trivial⟩ (fun ρn193 => ?_)
                      refine cw_block ?_
                      refine cw_loop (fun mm ρ' w' => ∃ (ρ0 : Env) (q : Nat) (stp : Bool), (ρ' = upds ρ0 [(2, .slice am ms.length cm), (11, .pointer (some ⟨b52, 0, none⟩)), (12, .slice aoS AA.2.length cS), (13, .int .i64 ((i : Int))), (16, .bool (stp)), (17, .int .i64 ((q : Int)))]) ∧ (mm = AA.2.length - q) ∧ (q ≤ AA.2.length) ∧ (stp = (AA.2.take q).contains x9.car) ∧ (Kp Non w w') ∧ (Box w' b1 [.int .i64 (b), .int .i64 (m), .int .i64 (c), .slice ao ps.length cp] 32) ∧ (Box w' b52 [.int .i64 ((min (max bg 0) 1048576)), .int .i64 (lw.margin), .int .i64 (0), .slice aoO AA.1.length cO] 32) ∧ (Tab w') ∧ (Rd (fun b => b < w.heap.size) w' 2 (.slice ao ps.length cp) (ps.map encP)) ∧ (Rd (fun b => b < w.heap.size) w' 2 (.slice am ms.length cm) (ms.map encP)) ∧ (Rd (fun b => (lo65 9) ≤ b ∧ b < (hi66 9)) w' 2 (.slice aoO AA.1.length cO) ((AA.1).map encP)) ∧ (Rd (fun b => (lo65 9) ≤ b ∧ b < (hi66 9)) w' 1 (.slice aoS AA.2.length cS) ((AA.2).map encI)) ∧ (Kp (fun _ => True) w63 w')) (AA.2.length - (0)) ?_ ?_
                      · skip
                        exact ⟨_, 0, false, upds_eq _ _ ⟨rfl, rfl, rfl, rfl, rfl, rfl, trivial⟩, rfl, Nat.zero_le _, (by simp), hK, hB6, hBu31, hT, hR, hMs, hRO, hRS, hTl⟩
                      · rintro mm ρ1 w194 ⟨ρ0, q, stp, rfl, rfl, hq, hstp, hK, hB6, hBu31, hT, hR, hMs, hRO, hRS, hTl⟩
                        refine cw_seq ?_
                        refine cw_seq ?_
                        refine cw_region rfl ?_
                        refine rl (o_move (v := .int .i64 ((q : Int))) rfl ?_) rfl
                        refine rl (o_move (v := .slice aoS AA.2.length cS) rfl ?_) rfl
                        refine rl (o_len rfl Tryd.underlying51 ?_) rfl
                        refine rl (o_lss rfl rfl ?_) rfl
                        refine rl_nil ?_
                        refine k_tn ?_
                        refine cw_norm [(2, .slice am ms.length cm), (11, .pointer (some ⟨b52, 0, none⟩)), (12, .slice aoS AA.2.length cS), (13, .int .i64 ((i : Int))), (16, .bool (stp)), (17, .int .i64 ((q : Int))), (121, .bool (decide ((q : Int) < ((AA.2.length : Nat) : Int))))] ⟨rfl, rfl, rfl, rfl, rfl, rfl, rfl, trivial⟩ (fun ρn195 => ?_)
                        refine cw_if rfl (fun h196 => ?_) (fun h196 => ?_)
                        · skip
                          refine cw_skip ?_
                          refine k_tn ?_
                          refine cw_norm [(2, .slice am ms.length cm), (11, .pointer (some ⟨b52, 0, none⟩)), (12, .slice aoS AA.2.length cS), (13, .int .i64 ((i : Int))), (16, .bool (stp)), (17, .int .i64 ((q : Int)))] ⟨rfl, rfl, rfl, rfl, rfl, rfl, trivial⟩ (fun ρn197 => ?_)
                          refine cw_seq ?_
                          refine cw_block ?_
                          obtain ⟨bz198, oz198, yz198, haoz198, hyez198, hAz198, hlt_bz198, hF_bz198⟩ := Rd.getF hMs i (by omega)
                          replace hF_bz198 : bz198 < w.heap.size := hF_bz198
                          obtain hxy : x9 = yz198 := Option.some.inj (hxe.symm.trans hyez198)
                          subst hxy
                          obtain ⟨b6, o6, y6, hao6, hy6, hA6, hlt_b6, hF_b6⟩ := Rd.getF hRS q (by omega)
                          replace hF_b6 : (lo65 9) ≤ b6 ∧ b6 < (hi66 9) := hF_b6
                          rcases Bool.eq_false_or_eq_true stp with h200 | h200
                          · skip
                            have ht_hTl_d4 := hTl.size
                            have hl_b1_d4 := hB6.lt
                            have hl_b52_d4 := hBu31.lt
                            refine cw_norm [(2, .slice am ms.length cm), (11, .pointer (some ⟨b52, 0, none⟩)), (12, .slice aoS AA.2.length cS), (13, .int .i64 ((i : Int))), (16, .bool (stp)), (17, .int .i64 ((q : Int)))] ⟨rfl, rfl, rfl, rfl, rfl, rfl, trivial⟩ (fun ρr202 => ?_)
                            have hsr4 := hK.size
                            refine cw_drawnK1 (fun _ => False) (fun _ _ _ => False) 14 [.val (.bool (stp)), .val (.bool (stp)), .val (undef), .val (undef), .val (undef), .val (undef), .val (undef), .val (undef), .val (undef), .val (undef), .val (undef)] [.val (.bool (stp)), .val (.bool (stp)), .val (undef), .val (undef), .val (undef), .val (undef), .val (undef), .val (undef), .val (undef), .val (undef), .val (undef)] [[], [0], [0, 1], [0, 1], [0, 1, 2, 3], [0, 1, 2, 3, 4], [0, 1], [0, 1], [0, 1, 6, 7], [0, 1, 6, 7, 8], [0, 1, 6, 7, 8, 9], [0, 1, 2, 3, 4, 5, 6, 7, 8, 9, 10], [0, 1, 2, 3, 4, 5, 6, 7, 8, 9, 10, 11], [0, 1, 2, 3, 4, 5, 6, 7, 8, 9, 10, 11, 12]] 11 mixed (by kernel_rfl) (fun _ _ _ _ _ h => h) ⟨upK_val, upK_val, upK_val, upK_val, upK_val, upK_val, upK_val, upK_val, upK_val, upK_val, upK_val, trivial⟩ ⟨⟨⟨⟨⟨⟨⟨⟨⟨⟨⟨trivial, ?_⟩, ?_⟩, ?_⟩, ?_⟩, ?_⟩, ?_⟩, ?_⟩, ?_⟩, ?_⟩, ?_⟩, ?_⟩ (fun w203 vs204 lo205 hi206 hE207 hkn208 hap209 => ?_)
                            · refine oblK_post rfl rfl (fun w203k vs lo hi hE hkn hap => ?_)
                              have hEs := hE.size
                              replace hK := hK.trans (Kp.ext hE)
                              replace hB6 := hB6.ext hE
                              replace hBu31 := hBu31.ext hE
                              replace hT := hT.ext hE
                              replace hR := hR.ext hE
                              replace hMs := hMs.ext hE
                              replace hRO := hRO.ext hE
                              replace hRS := hRS.ext hE
                              replace hTl := hTl.trans (Kp.ext hE)
                              replace hAz198 := At.ext hAz198 hE
                              replace hA6 := At.ext hA6 hE
                              refine oblK_n rfl ?_
                              refine opk_norm [(16, .bool (stp))] ⟨rfl, trivial⟩ (fun ρq => ?_)
                              refine o_move (v := .bool (stp)) rfl ?_
                              exact ⟨Kp.refl _ _, rfl⟩
                            · refine oblK_post rfl rfl (fun w203k vs lo hi hE hkn hap => ?_)
                              have hEs := hE.size
                              replace hK := hK.trans (Kp.ext hE)
                              replace hB6 := hB6.ext hE
                              replace hBu31 := hBu31.ext hE
                              replace hT := hT.ext hE
                              replace hR := hR.ext hE
                              replace hMs := hMs.ext hE
                              replace hRO := hRO.ext hE
                              replace hRS := hRS.ext hE
                              replace hTl := hTl.trans (Kp.ext hE)
                              replace hAz198 := At.ext hAz198 hE
                              replace hA6 := At.ext hA6 hE
                              refine oblK_n rfl ?_
                              refine opk_norm [(124, .bool (stp))] ⟨rfl, trivial⟩ (fun ρq => ?_)
                              refine o_move (v := .bool (stp)) rfl ?_
                              exact ⟨Kp.refl _ _, rfl⟩
                            · refine oblK_post rfl rfl (fun w203k vs lo hi hE hkn hap => ?_)
                              exact oblK_nf rfl (want_f rfl (h200) (by decide))
                            · refine oblK_post rfl rfl (fun w203k vs lo hi hE hkn hap => ?_)
                              exact oblK_nf rfl (want_f rfl (h200) (by decide))
                            · refine oblK_post rfl rfl (fun w203k vs lo hi hE hkn hap => ?_)
                              exact oblK_nf rfl (want_f rfl (h200) (by decide))
                            · refine oblK_post rfl rfl (fun w203k vs lo hi hE hkn hap => ?_)
                              exact oblK_nf rfl (want_f rfl (h200) (by decide))
                            · refine oblK_post rfl rfl (fun w203k vs lo hi hE hkn hap => ?_)
                              exact oblK_nf rfl (want_f rfl (h200) (by decide))
                            · refine oblK_post rfl rfl (fun w203k vs lo hi hE hkn hap => ?_)
                              exact oblK_nf rfl (want_f rfl (h200) (by decide))
                            · refine oblK_post rfl rfl (fun w203k vs lo hi hE hkn hap => ?_)
                              exact oblK_nf rfl (want_f rfl (h200) (by decide))
                            · refine oblK_post rfl rfl (fun w203k vs lo hi hE hkn hap => ?_)
                              exact oblK_nf rfl (want_f rfl (h200) (by decide))
                            · refine oblK_post rfl rfl (fun w203k vs lo hi hE hkn hap => ?_)
                              exact oblK_nf rfl (want_f rfl (h200) (by decide))
                            have hsE4 := hE207.size
                            replace hK := hK.trans (Kp.ext hE207)
                            replace hB6 := hB6.ext hE207
                            replace hBu31 := hBu31.ext hE207
                            replace hT := hT.ext hE207
                            replace hR := hR.ext hE207
                            replace hMs := hMs.ext hE207
                            replace hRO := hRO.ext hE207
                            replace hRS := hRS.ext hE207
                            replace hTl := hTl.trans (Kp.ext hE207)
                            replace hAz198 := At.ext hAz198 hE207
                            replace hA6 := At.ext hA6 hE207
                            refine rl_norm [(2, .slice am ms.length cm), (11, .pointer (some ⟨b52, 0, none⟩)), (12, .slice aoS AA.2.length cS), (13, .int .i64 ((i : Int))), (17, .int .i64 ((q : Int))), (125, .bool (stp))] ⟨rfl, rfl, rfl, rfl, rfl, rfl, trivial⟩ (fun ρr202q => ?_)
                            refine rlo ?_ (want_f rfl (h200) (by decide))
                            refine rl (o_pickT (v := .bool (true)) rfl (h200) rfl ?_) rfl
                            refine rl (o_assign (v := .bool (true)) rfl ?_) rfl
                            refine rl_nil ?_
                            refine k_bn ?_
                            refine k_tn ?_
                            refine cw_norm [(2, .slice am ms.length cm), (11, .pointer (some ⟨b52, 0, none⟩)), (12, .slice aoS AA.2.length cS), (13, .int .i64 ((i : Int))), (16, .bool (true)), (17, .int .i64 ((q : Int)))] ⟨rfl, rfl, rfl, rfl, rfl, rfl, trivial⟩ (fun ρn210 => ?_)
                            refine cw_region rfl ?_
                            refine rl (o_move (v := .int .i64 ((q : Int))) rfl ?_) rfl
                            refine rl (o_add64 (a := (q : Int)) (b := 1) rfl rfl (by omega) (by omega) ?_) rfl
                            refine rl (o_assign (v := .int .i64 ((q : Int) + 1)) rfl ?_) rfl
                            refine rl_nil ?_
                            refine k_tn ?_
                            refine ⟨_, ?_, _, q + 1, true, upds_eq _ _ ⟨rfl, rfl, rfl, rfl, rfl, rfl, trivial⟩, rfl, (by omega), (stp_step hy6 hstp (by rw [h200]; rfl)), hK, hB6, hBu31, hT, hR, hMs, hRO, hRS, hTl⟩
                            omega
                          · skip
                            have ht_hTl_d5 := hTl.size
                            have hl_b1_d5 := hB6.lt
                            have hl_b52_d5 := hBu31.lt
                            refine cw_norm [(2, .slice am ms.length cm), (11, .pointer (some ⟨b52, 0, none⟩)), (12, .slice aoS AA.2.length cS), (13, .int .i64 ((i : Int))), (16, .bool (stp)), (17, .int .i64 ((q : Int)))] ⟨rfl, rfl, rfl, rfl, rfl, rfl, trivial⟩ (fun ρr224 => ?_)
                            have hsr5 := hK.size
                            refine cw_drawnK1 (fun _ => False) (fun _ _ _ => False) 14 [.val (.bool (stp)), .val (.bool (stp)), .val (.slice aoS AA.2.length cS), .val (.int .i64 ((q : Int))), .val (.pointer (some ⟨b6, o6 + q * 1, none⟩)), .val (.int .i64 (y6)), .val (.slice am ms.length cm), .val (.int .i64 ((i : Int))), .val (.pointer (some ⟨bz198, oz198 + i * 2, none⟩)), .val (.pointer (some ⟨bz198, oz198 + i * 2, none⟩)), .val (.int .i64 (x9.car))] [.val (.bool (stp)), .val (.bool (stp)), .val (.slice aoS AA.2.length cS), .val (.int .i64 ((q : Int))), .val (.pointer (some ⟨b6, o6 + q * 1, none⟩)), .val (.int .i64 (y6)), .val (.slice am ms.length cm), .val (.int .i64 ((i : Int))), .val (.pointer (some ⟨bz198, oz198 + i * 2, none⟩)), .val (.pointer (some ⟨bz198, oz198 + i * 2, none⟩)), .val (.int .i64 (x9.car))] [[], [0], [0, 1], [0, 1], [0, 1, 2, 3], [0, 1, 2, 3, 4], [0, 1], [0, 1], [0, 1, 6, 7], [0, 1, 6, 7, 8], [0, 1, 6, 7, 8, 9], [0, 1, 2, 3, 4, 5, 6, 7, 8, 9, 10], [0, 1, 2, 3, 4, 5, 6, 7, 8, 9, 10, 11], [0, 1, 2, 3, 4, 5, 6, 7, 8, 9, 10, 11, 12]] 11 mixed (by kernel_rfl) (fun _ _ _ _ _ h => h) ⟨upK_val, upK_val, upK_val, upK_val, upK_val, upK_val, upK_val, upK_val, upK_val, upK_val, upK_val, trivial⟩ ⟨⟨⟨⟨⟨⟨⟨⟨⟨⟨⟨trivial, ?_⟩, ?_⟩, ?_⟩, ?_⟩, ?_⟩, ?_⟩, ?_⟩, ?_⟩, ?_⟩, ?_⟩, ?_⟩ (fun w225 vs226 lo227 hi228 hE229 hkn230 hap231 => ?_)
                            · refine oblK_post rfl rfl (fun w225k vs lo hi hE hkn hap => ?_)
                              have hEs := hE.size
                              replace hK := hK.trans (Kp.ext hE)
                              replace hB6 := hB6.ext hE
                              replace hBu31 := hBu31.ext hE
                              replace hT := hT.ext hE
                              replace hR := hR.ext hE
                              replace hMs := hMs.ext hE
                              replace hRO := hRO.ext hE
                              replace hRS := hRS.ext hE
                              replace hTl := hTl.trans (Kp.ext hE)
                              replace hAz198 := At.ext hAz198 hE
                              replace hA6 := At.ext hA6 hE
                              refine oblK_n rfl ?_
                              refine opk_norm [(16, .bool (stp))] ⟨rfl, trivial⟩ (fun ρq => ?_)
                              refine o_move (v := .bool (stp)) rfl ?_
                              exact ⟨Kp.refl _ _, rfl⟩
                            · refine oblK_post rfl rfl (fun w225k vs lo hi hE hkn hap => ?_)
                              have hEs := hE.size
                              replace hK := hK.trans (Kp.ext hE)
                              replace hB6 := hB6.ext hE
                              replace hBu31 := hBu31.ext hE
                              replace hT := hT.ext hE
                              replace hR := hR.ext hE
                              replace hMs := hMs.ext hE
                              replace hRO := hRO.ext hE
                              replace hRS := hRS.ext hE
                              replace hTl := hTl.trans (Kp.ext hE)
                              replace hAz198 := At.ext hAz198 hE
                              replace hA6 := At.ext hA6 hE
                              refine oblK_n rfl ?_
                              refine opk_norm [(124, .bool (stp))] ⟨rfl, trivial⟩ (fun ρq => ?_)
                              refine o_move (v := .bool (stp)) rfl ?_
                              exact ⟨Kp.refl _ _, rfl⟩
                            · refine oblK_post rfl rfl (fun w225k vs lo hi hE hkn hap => ?_)
                              have hEs := hE.size
                              replace hK := hK.trans (Kp.ext hE)
                              replace hB6 := hB6.ext hE
                              replace hBu31 := hBu31.ext hE
                              replace hT := hT.ext hE
                              replace hR := hR.ext hE
                              replace hMs := hMs.ext hE
                              replace hRO := hRO.ext hE
                              replace hRS := hRS.ext hE
                              replace hTl := hTl.trans (Kp.ext hE)
                              replace hAz198 := At.ext hAz198 hE
                              replace hA6 := At.ext hA6 hE
                              refine oblK_n (want_t rfl (h200)) ?_
                              refine opk_norm [(12, .slice aoS AA.2.length cS), (125, .bool (stp))] ⟨rfl, rfl, trivial⟩ (fun ρq => ?_)
                              refine o_move (v := .slice aoS AA.2.length cS) rfl ?_
                              exact ⟨Kp.refl _ _, rfl⟩
                            · refine oblK_post rfl rfl (fun w225k vs lo hi hE hkn hap => ?_)
                              have hEs := hE.size
                              replace hK := hK.trans (Kp.ext hE)
                              replace hB6 := hB6.ext hE
                              replace hBu31 := hBu31.ext hE
                              replace hT := hT.ext hE
                              replace hR := hR.ext hE
                              replace hMs := hMs.ext hE
                              replace hRO := hRO.ext hE
                              replace hRS := hRS.ext hE
                              replace hTl := hTl.trans (Kp.ext hE)
                              replace hAz198 := At.ext hAz198 hE
                              replace hA6 := At.ext hA6 hE
                              refine oblK_n (want_t rfl (h200)) ?_
                              refine opk_norm [(17, .int .i64 ((q : Int))), (125, .bool (stp))] ⟨rfl, rfl, trivial⟩ (fun ρq => ?_)
                              refine o_move (v := .int .i64 ((q : Int))) rfl ?_
                              exact ⟨Kp.refl _ _, rfl⟩
                            · refine oblK_post rfl rfl (fun w225k vs lo hi hE hkn hap => ?_)
                              have hEs := hE.size
                              replace hK := hK.trans (Kp.ext hE)
                              replace hB6 := hB6.ext hE
                              replace hBu31 := hBu31.ext hE
                              replace hT := hT.ext hE
                              replace hR := hR.ext hE
                              replace hMs := hMs.ext hE
                              replace hRO := hRO.ext hE
                              replace hRS := hRS.ext hE
                              replace hTl := hTl.trans (Kp.ext hE)
                              replace hAz198 := At.ext hAz198 hE
                              replace hA6 := At.ext hA6 hE
                              refine oblK_n (want_t rfl (h200)) ?_
                              refine opk_norm [(125, .bool (stp)), (126, .slice aoS AA.2.length cS), (127, .int .i64 ((q : Int)))] ⟨rfl, rfl, rfl, trivial⟩ (fun ρq => ?_)
                              refine o_idxAt q rfl rfl Tryd.underlying51 Tryd.sizeOf3 hao6 (by omega) (by omega) ?_
                              exact ⟨Kp.refl _ _, rfl⟩
                            · refine oblK_post rfl rfl (fun w225k vs lo hi hE hkn hap => ?_)
                              have hEs := hE.size
                              replace hK := hK.trans (Kp.ext hE)
                              replace hB6 := hB6.ext hE
                              replace hBu31 := hBu31.ext hE
                              replace hT := hT.ext hE
                              replace hR := hR.ext hE
                              replace hMs := hMs.ext hE
                              replace hRO := hRO.ext hE
                              replace hRS := hRS.ext hE
                              replace hTl := hTl.trans (Kp.ext hE)
                              replace hAz198 := At.ext hAz198 hE
                              replace hA6 := At.ext hA6 hE
                              refine oblK_n (want_t rfl (h200)) ?_
                              refine opk_norm [(125, .bool (stp)), (128, .pointer (some ⟨b6, o6 + q * 1, none⟩))] ⟨rfl, rfl, trivial⟩ (fun ρq => ?_)
                              refine o_load (v := .int .i64 (y6)) rfl tyS3 (hA6 0 _ rfl) ?_
                              exact ⟨Kp.refl _ _, rfl⟩
                            · refine oblK_post rfl rfl (fun w225k vs lo hi hE hkn hap => ?_)
                              have hEs := hE.size
                              replace hK := hK.trans (Kp.ext hE)
                              replace hB6 := hB6.ext hE
                              replace hBu31 := hBu31.ext hE
                              replace hT := hT.ext hE
                              replace hR := hR.ext hE
                              replace hMs := hMs.ext hE
                              replace hRO := hRO.ext hE
                              replace hRS := hRS.ext hE
                              replace hTl := hTl.trans (Kp.ext hE)
                              replace hAz198 := At.ext hAz198 hE
                              replace hA6 := At.ext hA6 hE
                              refine oblK_n (want_t rfl (h200)) ?_
                              refine opk_norm [(2, .slice am ms.length cm), (125, .bool (stp))] ⟨rfl, rfl, trivial⟩ (fun ρq => ?_)
                              refine o_move (v := .slice am ms.length cm) rfl ?_
                              exact ⟨Kp.refl _ _, rfl⟩
                            · refine oblK_post rfl rfl (fun w225k vs lo hi hE hkn hap => ?_)
                              have hEs := hE.size
                              replace hK := hK.trans (Kp.ext hE)
                              replace hB6 := hB6.ext hE
                              replace hBu31 := hBu31.ext hE
                              replace hT := hT.ext hE
                              replace hR := hR.ext hE
                              replace hMs := hMs.ext hE
                              replace hRO := hRO.ext hE
                              replace hRS := hRS.ext hE
                              replace hTl := hTl.trans (Kp.ext hE)
                              replace hAz198 := At.ext hAz198 hE
                              replace hA6 := At.ext hA6 hE
                              refine oblK_n (want_t rfl (h200)) ?_
                              refine opk_norm [(13, .int .i64 ((i : Int))), (125, .bool (stp))] ⟨rfl, rfl, trivial⟩ (fun ρq => ?_)
                              refine o_move (v := .int .i64 ((i : Int))) rfl ?_
                              exact ⟨Kp.refl _ _, rfl⟩
                            · refine oblK_post rfl rfl (fun w225k vs lo hi hE hkn hap => ?_)
                              have hEs := hE.size
                              replace hK := hK.trans (Kp.ext hE)
                              replace hB6 := hB6.ext hE
                              replace hBu31 := hBu31.ext hE
                              replace hT := hT.ext hE
                              replace hR := hR.ext hE
                              replace hMs := hMs.ext hE
                              replace hRO := hRO.ext hE
                              replace hRS := hRS.ext hE
                              replace hTl := hTl.trans (Kp.ext hE)
                              replace hAz198 := At.ext hAz198 hE
                              replace hA6 := At.ext hA6 hE
                              refine oblK_n (want_t rfl (h200)) ?_
                              refine opk_norm [(125, .bool (stp)), (130, .slice am ms.length cm), (131, .int .i64 ((i : Int)))] ⟨rfl, rfl, rfl, trivial⟩ (fun ρq => ?_)
                              refine o_idxAt i rfl rfl Tryd.underlying49 Tryd.sizeOf56 haoz198 (by omega) (by omega) ?_
                              exact ⟨Kp.refl _ _, rfl⟩
                            · refine oblK_post rfl rfl (fun w225k vs lo hi hE hkn hap => ?_)
                              have hEs := hE.size
                              replace hK := hK.trans (Kp.ext hE)
                              replace hB6 := hB6.ext hE
                              replace hBu31 := hBu31.ext hE
                              replace hT := hT.ext hE
                              replace hR := hR.ext hE
                              replace hMs := hMs.ext hE
                              replace hRO := hRO.ext hE
                              replace hRS := hRS.ext hE
                              replace hTl := hTl.trans (Kp.ext hE)
                              replace hAz198 := At.ext hAz198 hE
                              replace hA6 := At.ext hA6 hE
                              refine oblK_n (want_t rfl (h200)) ?_
                              refine opk_norm [(125, .bool (stp)), (132, .pointer (some ⟨bz198, oz198 + i * 2, none⟩))] ⟨rfl, rfl, trivial⟩ (fun ρq => ?_)
                              refine o_field rfl fa56_0 ?_
                              exact ⟨Kp.refl _ _, rfl⟩
                            · refine oblK_post rfl rfl (fun w225k vs lo hi hE hkn hap => ?_)
                              have hEs := hE.size
                              replace hK := hK.trans (Kp.ext hE)
                              replace hB6 := hB6.ext hE
                              replace hBu31 := hBu31.ext hE
                              replace hT := hT.ext hE
                              replace hR := hR.ext hE
                              replace hMs := hMs.ext hE
                              replace hRO := hRO.ext hE
                              replace hRS := hRS.ext hE
                              replace hTl := hTl.trans (Kp.ext hE)
                              replace hAz198 := At.ext hAz198 hE
                              replace hA6 := At.ext hA6 hE
                              refine oblK_n (want_t rfl (h200)) ?_
                              refine opk_norm [(125, .bool (stp)), (133, .pointer (some ⟨bz198, oz198 + i * 2, none⟩))] ⟨rfl, rfl, trivial⟩ (fun ρq => ?_)
                              refine o_load (v := .int .i64 (x9.car)) rfl tyS3 (hAz198 0 _ rfl) ?_
                              exact ⟨Kp.refl _ _, rfl⟩
                            have hsE5 := hE229.size
                            replace hK := hK.trans (Kp.ext hE229)
                            replace hB6 := hB6.ext hE229
                            replace hBu31 := hBu31.ext hE229
                            replace hT := hT.ext hE229
                            replace hR := hR.ext hE229
                            replace hMs := hMs.ext hE229
                            replace hRO := hRO.ext hE229
                            replace hRS := hRS.ext hE229
                            replace hTl := hTl.trans (Kp.ext hE229)
                            replace hAz198 := At.ext hAz198 hE229
                            replace hA6 := At.ext hA6 hE229
                            refine rl_norm [(2, .slice am ms.length cm), (11, .pointer (some ⟨b52, 0, none⟩)), (12, .slice aoS AA.2.length cS), (13, .int .i64 ((i : Int))), (17, .int .i64 ((q : Int))), (125, .bool (stp)), (129, .int .i64 (y6)), (134, .int .i64 (x9.car))] ⟨rfl, rfl, rfl, rfl, rfl, rfl, rfl, rfl, trivial⟩ (fun ρr224q => ?_)
                            refine rl (o_eql rfl rfl ?_) (want_t rfl (h200))
                            refine rl (o_pickF (v := .bool (decide (y6 = x9.car))) rfl (h200) rfl ?_) rfl
                            refine rl (o_assign (v := .bool (decide (y6 = x9.car))) rfl ?_) rfl
                            refine rl_nil ?_
                            refine k_bn ?_
                            refine k_tn ?_
                            refine cw_norm [(2, .slice am ms.length cm), (11, .pointer (some ⟨b52, 0, none⟩)), (12, .slice aoS AA.2.length cS), (13, .int .i64 ((i : Int))), (16, .bool (decide (y6 = x9.car))), (17, .int .i64 ((q : Int)))] ⟨rfl, rfl, rfl, rfl, rfl, rfl, trivial⟩ (fun ρn244 => ?_)
                            refine cw_region rfl ?_
                            refine rl (o_move (v := .int .i64 ((q : Int))) rfl ?_) rfl
                            refine rl (o_add64 (a := (q : Int)) (b := 1) rfl rfl (by omega) (by omega) ?_) rfl
                            refine rl (o_assign (v := .int .i64 ((q : Int) + 1)) rfl ?_) rfl
                            refine rl_nil ?_
                            refine k_tn ?_
                            refine ⟨_, ?_, _, q + 1, decide (y6 = x9.car), upds_eq _ _ ⟨rfl, rfl, rfl, rfl, rfl, rfl, trivial⟩, rfl, (by omega), (stp_step hy6 hstp (by rw [h200]; rfl)), hK, hB6, hBu31, hT, hR, hMs, hRO, hRS, hTl⟩
                            omega
                        · skip
                          refine cw_exit ?_
                          refine k_te ?_
                          refine k_te ?_
                          refine k_bh ?_
                          refine k_tn ?_
                          refine cw_norm [(2, .slice am ms.length cm), (11, .pointer (some ⟨b52, 0, none⟩)), (12, .slice aoS AA.2.length cS), (13, .int .i64 ((i : Int))), (16, .bool (stp))] ⟨rfl, rfl, rfl, rfl, rfl, trivial⟩ (fun ρn245 => ?_)
                          obtain ⟨bz246, oz246, yz246, haoz246, hyez246, hAz246, hlt_bz246, hF_bz246⟩ := Rd.getF hMs i (by omega)
                          replace hF_bz246 : bz246 < w.heap.size := hF_bz246
                          obtain hxy : x9 = yz246 := Option.some.inj (hxe.symm.trans hyez246)
                          subst hxy
                          have hfst := hfs.1 (by simpa using h189)
                          have hki2 : k = i := by omega
                          have hF : First ms i x9 := ⟨hxe, (by omega), (by omega), fun k0 m0 hk0 hm0 => hfst k0 m0 (by omega) hm0⟩
                          have hhas := ag_has hiv hF
                          have hsto : stp = AA.2.contains x9.car := by rw [hstp, show q = AA.2.length by omega, List.take_length]
                          have hne : (decide (0 ≤ idxOf (fun p : Permit => decide (p.car = x9.car)) AA.1) == stp) = false := ne_of_has (hhas.imp (fun h => ⟨h.1, h.2.2⟩) (fun h => h)) hsto
                          have hpk : 0 ≤ idxOf (fun p : Permit => decide (p.car = x9.car)) AA.1 → ¬ ((oneOf (fun p : Permit => decide (p.car = x9.car)) AA.1).peak < min x9.peak 1048576) := fun h => hhas.elim (fun h2 => Int.not_lt.2 h2.2.1) (fun h2 => absurd h h2.1)
                          clear hhas hF hfst
                          have ht_hTl_d6 := hTl.size
                          have hl_b1_d6 := hB6.lt
                          have hl_b52_d6 := hBu31.lt
                          refine cw_norm [(2, .slice am ms.length cm), (11, .pointer (some ⟨b52, 0, none⟩)), (12, .slice aoS AA.2.length cS), (13, .int .i64 ((i : Int))), (16, .bool (stp))] ⟨rfl, rfl, rfl, rfl, rfl, trivial⟩ (fun ρr268 => ?_)
                          have hsr6 := hK.size
                          refine cw_drawnK (fun _ => False) (fun lo hi k => lo 10 ≤ k ∧ k < hi 10) 11 [.val (.agg #[.int .i64 ((min (max bg 0) 1048576)), .int .i64 (lw.margin), .int .i64 (0), .slice aoO AA.1.length cO]), .val (.slice am ms.length cm), .val (.int .i64 ((i : Int))), .val (.pointer (some ⟨bz246, oz246 + i * 2, none⟩)), .val (.pointer (some ⟨bz246, oz246 + i * 2, none⟩)), .val (.int .i64 (x9.car)), .val (.tuple #[.agg #[.int .i64 ((oneOf (fun p : Permit => decide (p.car = x9.car)) AA.1).car), .int .i64 ((oneOf (fun p : Permit => decide (p.car = x9.car)) AA.1).peak)], .bool (decide (0 ≤ idxOf (fun p : Permit => decide (p.car = x9.car)) AA.1))]), .val (.tuple #[.agg #[.int .i64 ((oneOf (fun p : Permit => decide (p.car = x9.car)) AA.1).car), .int .i64 ((oneOf (fun p : Permit => decide (p.car = x9.car)) AA.1).peak)], .bool (decide (0 ≤ idxOf (fun p : Permit => decide (p.car = x9.car)) AA.1))]), .val (.agg #[.int .i64 ((oneOf (fun p : Permit => decide (p.car = x9.car)) AA.1).car), .int .i64 ((oneOf (fun p : Permit => decide (p.car = x9.car)) AA.1).peak)]), .val (.bool (decide (0 ≤ idxOf (fun p : Permit => decide (p.car = x9.car)) AA.1))), .fact (fun c wq => (cv c 0) = .pointer (some ⟨(pBlk (cv c 0)), 0, none⟩) ∧ (w194.heap.size ≤ (ca c 0)) ∧ ((ca c 0) ≤ (pBlk (cv c 0)) ∧ (pBlk (cv c 0)) < (ce c 0))), .fact (fun c wq => (Box wq (pBlk (cv c 10)) [.int .i64 ((oneOf (fun p : Permit => decide (p.car = x9.car)) AA.1).car), .int .i64 ((oneOf (fun p : Permit => decide (p.car = x9.car)) AA.1).peak)] 57))] [.val (.agg #[.int .i64 ((min (max bg 0) 1048576)), .int .i64 (lw.margin), .int .i64 (0), .slice aoO AA.1.length cO]), .val (.slice am ms.length cm), .val (.int .i64 ((i : Int))), .val (.pointer (some ⟨bz246, oz246 + i * 2, none⟩)), .val (.pointer (some ⟨bz246, oz246 + i * 2, none⟩)), .val (.int .i64 (x9.car)), .val (.tuple #[.agg #[.int .i64 ((oneOf (fun p : Permit => decide (p.car = x9.car)) AA.1).car), .int .i64 ((oneOf (fun p : Permit => decide (p.car = x9.car)) AA.1).peak)], .bool (decide (0 ≤ idxOf (fun p : Permit => decide (p.car = x9.car)) AA.1))]), .val (.tuple #[.agg #[.int .i64 ((oneOf (fun p : Permit => decide (p.car = x9.car)) AA.1).car), .int .i64 ((oneOf (fun p : Permit => decide (p.car = x9.car)) AA.1).peak)], .bool (decide (0 ≤ idxOf (fun p : Permit => decide (p.car = x9.car)) AA.1))]), .val (.agg #[.int .i64 ((oneOf (fun p : Permit => decide (p.car = x9.car)) AA.1).car), .int .i64 ((oneOf (fun p : Permit => decide (p.car = x9.car)) AA.1).peak)]), .val (.bool (decide (0 ≤ idxOf (fun p : Permit => decide (p.car = x9.car)) AA.1))), .fact (fun c wq => (cv c 0) = .pointer (some ⟨(pBlk (cv c 0)), 0, none⟩) ∧ (w194.heap.size ≤ (ca c 0)) ∧ ((ca c 0) ≤ (pBlk (cv c 0)) ∧ (pBlk (cv c 0)) < (ce c 0)) ∧ (Box wq (pBlk (cv c 0)) [.int .i64 (0), .int .i64 (0)] 57)), .fact (fun c wq => (Box wq (pBlk (cv c 10)) [.int .i64 ((oneOf (fun p : Permit => decide (p.car = x9.car)) AA.1).car), .int .i64 ((oneOf (fun p : Permit => decide (p.car = x9.car)) AA.1).peak)] 57))] [[], [], [], [1, 2], [1, 2, 3], [1, 2, 3, 4], [0, 1, 2, 3, 4, 5], [0, 1, 2, 3, 4, 5, 6], [0, 1, 2, 3, 4, 5, 6, 7], [0, 1, 2, 3, 4, 5, 6, 7], [], [0, 1, 2, 3, 4, 5, 6, 7, 8, 10], [0, 1, 2, 3, 4, 5, 6, 7, 8, 9, 10, 11]] 12 mixed (by kernel_rfl) (fun lo hi h k hk hT => by have h1 := h 10 (by decide); have h2 : lo 10 ≤ k ∧ k < hi 10 := hT; omega) ⟨upK_val, upK_val, upK_val, upK_val, upK_val, upK_val, upK_val, upK_val, upK_val, upK_val, upK_pre rfl rfl (fun c wq wq' ⟨hv, hlo10, hge_b258, hB263⟩ hk => ⟨hv, hlo10, hge_b258, hB263.ext hk⟩) (fun c wq wq' ⟨hv, hlo10, hge_b258⟩ hk => ⟨hv, hlo10, hge_b258⟩) (fun vs lo hi wq wq' hap hbd ⟨hv, hlo10, hge_b258⟩ hk => ⟨hv, hlo10, hge_b258⟩) (fun v c wq ⟨hv, hlo10, hge_b258, hB263⟩ => ⟨hv, hlo10, hge_b258⟩), upK_one rfl (fun c wq wq' hBu247 hk => hBu247.ext hk), trivial⟩ ⟨⟨⟨⟨⟨⟨⟨⟨⟨⟨⟨⟨trivial, ?_⟩, ?_⟩, ?_⟩, ?_⟩, ?_⟩, ?_⟩, ?_⟩, ?_⟩, ?_⟩, ?_⟩, ?_⟩, ?_⟩ (fun w269 vs270 lo271 hi272 hE273 hkn274 hap275 => ?_)
                          · refine oblK_pre rfl rfl (fun w269k vs lo hi hE hkn hap => ?_)
                            have hEs := hE.size
                            replace hK := hK.trans (Kp.ext hE)
                            replace hB6 := hB6.ext hE
                            replace hBu31 := hBu31.ext hE
                            replace hT := hT.ext hE
                            replace hR := hR.ext hE
                            replace hMs := hMs.ext hE
                            replace hRO := hRO.ext hE
                            replace hRS := hRS.ext hE
                            replace hTl := hTl.trans (Kp.ext hE)
                            replace hAz246 := At.ext hAz246 hE
                            refine oblK_p rfl rfl ?_
                            refine opk_norm [(11, .pointer (some ⟨b52, 0, none⟩))] ⟨rfl, trivial⟩ (fun ρq => ?_)
                            refine o_loadBA (ds := [.int .i64 ((min (max bg 0) 1048576)), .int .i64 (lw.margin), .int .i64 (0), .slice aoO AA.1.length cO]) rfl hBu31 tyA32 rfl rfl ?_
                            exact ⟨Kp.refl _ _, rfl⟩
                          · refine oblK_pre rfl rfl (fun w269k vs lo hi hE hkn hap => ?_)
                            have hEs := hE.size
                            replace hK := hK.trans (Kp.ext hE)
                            replace hB6 := hB6.ext hE
                            replace hBu31 := hBu31.ext hE
                            replace hT := hT.ext hE
                            replace hR := hR.ext hE
                            replace hMs := hMs.ext hE
                            replace hRO := hRO.ext hE
                            replace hRS := hRS.ext hE
                            replace hTl := hTl.trans (Kp.ext hE)
                            replace hAz246 := At.ext hAz246 hE
                            refine oblK_p rfl rfl ?_
                            refine opk_norm [(2, .slice am ms.length cm)] ⟨rfl, trivial⟩ (fun ρq => ?_)
                            refine o_move (v := .slice am ms.length cm) rfl ?_
                            exact ⟨Kp.refl _ _, rfl⟩
                          · refine oblK_pre rfl rfl (fun w269k vs lo hi hE hkn hap => ?_)
                            have hEs := hE.size
                            replace hK := hK.trans (Kp.ext hE)
                            replace hB6 := hB6.ext hE
                            replace hBu31 := hBu31.ext hE
                            replace hT := hT.ext hE
                            replace hR := hR.ext hE
                            replace hMs := hMs.ext hE
                            replace hRO := hRO.ext hE
                            replace hRS := hRS.ext hE
                            replace hTl := hTl.trans (Kp.ext hE)
                            replace hAz246 := At.ext hAz246 hE
                            refine oblK_p rfl rfl ?_
                            refine opk_norm [(13, .int .i64 ((i : Int)))] ⟨rfl, trivial⟩ (fun ρq => ?_)
                            refine o_move (v := .int .i64 ((i : Int))) rfl ?_
                            exact ⟨Kp.refl _ _, rfl⟩
                          · refine oblK_pre rfl rfl (fun w269k vs lo hi hE hkn hap => ?_)
                            have hEs := hE.size
                            replace hK := hK.trans (Kp.ext hE)
                            replace hB6 := hB6.ext hE
                            replace hBu31 := hBu31.ext hE
                            replace hT := hT.ext hE
                            replace hR := hR.ext hE
                            replace hMs := hMs.ext hE
                            replace hRO := hRO.ext hE
                            replace hRS := hRS.ext hE
                            replace hTl := hTl.trans (Kp.ext hE)
                            replace hAz246 := At.ext hAz246 hE
                            refine oblK_p rfl rfl ?_
                            refine opk_norm [(139, .slice am ms.length cm), (140, .int .i64 ((i : Int)))] ⟨rfl, rfl, trivial⟩ (fun ρq => ?_)
                            refine o_idxAt i rfl rfl Tryd.underlying49 Tryd.sizeOf56 haoz246 (by omega) (by omega) ?_
                            exact ⟨Kp.refl _ _, rfl⟩
                          · refine oblK_pre rfl rfl (fun w269k vs lo hi hE hkn hap => ?_)
                            have hEs := hE.size
                            replace hK := hK.trans (Kp.ext hE)
                            replace hB6 := hB6.ext hE
                            replace hBu31 := hBu31.ext hE
                            replace hT := hT.ext hE
                            replace hR := hR.ext hE
                            replace hMs := hMs.ext hE
                            replace hRO := hRO.ext hE
                            replace hRS := hRS.ext hE
                            replace hTl := hTl.trans (Kp.ext hE)
                            replace hAz246 := At.ext hAz246 hE
                            refine oblK_p rfl rfl ?_
                            refine opk_norm [(141, .pointer (some ⟨bz246, oz246 + i * 2, none⟩))] ⟨rfl, trivial⟩ (fun ρq => ?_)
                            refine o_field rfl fa56_0 ?_
                            exact ⟨Kp.refl _ _, rfl⟩
                          · refine oblK_pre rfl rfl (fun w269k vs lo hi hE hkn hap => ?_)
                            have hEs := hE.size
                            replace hK := hK.trans (Kp.ext hE)
                            replace hB6 := hB6.ext hE
                            replace hBu31 := hBu31.ext hE
                            replace hT := hT.ext hE
                            replace hR := hR.ext hE
                            replace hMs := hMs.ext hE
                            replace hRO := hRO.ext hE
                            replace hRS := hRS.ext hE
                            replace hTl := hTl.trans (Kp.ext hE)
                            replace hAz246 := At.ext hAz246 hE
                            refine oblK_p rfl rfl ?_
                            refine opk_norm [(142, .pointer (some ⟨bz246, oz246 + i * 2, none⟩))] ⟨rfl, trivial⟩ (fun ρq => ?_)
                            refine o_load (v := .int .i64 (x9.car)) rfl tyS3 (hAz246 0 _ rfl) ?_
                            exact ⟨Kp.refl _ _, rfl⟩
                          · refine oblK_pre rfl rfl (fun w269k vs lo hi hE hkn hap => ?_)
                            have hEs := hE.size
                            replace hK := hK.trans (Kp.ext hE)
                            replace hB6 := hB6.ext hE
                            replace hBu31 := hBu31.ext hE
                            replace hT := hT.ext hE
                            replace hR := hR.ext hE
                            replace hMs := hMs.ext hE
                            replace hRO := hRO.ext hE
                            replace hRS := hRS.ext hE
                            replace hTl := hTl.trans (Kp.ext hE)
                            replace hAz246 := At.ext hAz246 hE
                            refine oblK_p rfl rfl ?_
                            refine opk_norm [(138, .agg #[.int .i64 ((min (max bg 0) 1048576)), .int .i64 (lw.margin), .int .i64 (0), .slice aoO AA.1.length cO]), (143, .int .i64 (x9.car))] ⟨rfl, rfl, trivial⟩ (fun ρq => ?_)
                            refine o_call (has_ok _ _ _ _ _ AA.1 x9.car _ _ rfl (by omega) hRO) Tryd.call21 (fun v282 w283 hk284 hv285 => ?_)
                            have hl_b1_w283 := hB6.lt
                            have hl_b52_w283 := hBu31.lt
                            have hs_w283 := hK.size
                            have hsk_w283 := hk284.size
                            obtain rfl := hv285
                            replace hK := hK.trans (Kp.ext hk284)
                            replace hB6 := hB6.ext hk284
                            replace hBu31 := hBu31.ext hk284
                            replace hT := hT.ext hk284
                            replace hR := hR.ext hk284
                            replace hMs := hMs.ext hk284
                            replace hRO := hRO.ext hk284
                            replace hRS := hRS.ext hk284
                            replace hTl := hTl.trans (Kp.ext hk284)
                            replace hAz246 := At.ext hAz246 hk284
                            exact ⟨hk284, rfl⟩
                          · refine oblK_pre rfl rfl (fun w269k vs lo hi hE hkn hap => ?_)
                            have hEs := hE.size
                            replace hK := hK.trans (Kp.ext hE)
                            replace hB6 := hB6.ext hE
                            replace hBu31 := hBu31.ext hE
                            replace hT := hT.ext hE
                            replace hR := hR.ext hE
                            replace hMs := hMs.ext hE
                            replace hRO := hRO.ext hE
                            replace hRS := hRS.ext hE
                            replace hTl := hTl.trans (Kp.ext hE)
                            replace hAz246 := At.ext hAz246 hE
                            refine oblK_p rfl rfl ?_
                            refine opk_norm [(144, .tuple #[.agg #[.int .i64 ((oneOf (fun p : Permit => decide (p.car = x9.car)) AA.1).car), .int .i64 ((oneOf (fun p : Permit => decide (p.car = x9.car)) AA.1).peak)], .bool (decide (0 ≤ idxOf (fun p : Permit => decide (p.car = x9.car)) AA.1))])] ⟨rfl, trivial⟩ (fun ρq => ?_)
                            refine o_move (v := .tuple #[.agg #[.int .i64 ((oneOf (fun p : Permit => decide (p.car = x9.car)) AA.1).car), .int .i64 ((oneOf (fun p : Permit => decide (p.car = x9.car)) AA.1).peak)], .bool (decide (0 ≤ idxOf (fun p : Permit => decide (p.car = x9.car)) AA.1))]) rfl ?_
                            exact ⟨Kp.refl _ _, rfl⟩
                          · refine oblK_pre rfl rfl (fun w269k vs lo hi hE hkn hap => ?_)
                            have hEs := hE.size
                            replace hK := hK.trans (Kp.ext hE)
                            replace hB6 := hB6.ext hE
                            replace hBu31 := hBu31.ext hE
                            replace hT := hT.ext hE
                            replace hR := hR.ext hE
                            replace hMs := hMs.ext hE
                            replace hRO := hRO.ext hE
                            replace hRS := hRS.ext hE
                            replace hTl := hTl.trans (Kp.ext hE)
                            replace hAz246 := At.ext hAz246 hE
                            refine oblK_p rfl rfl ?_
                            refine opk_norm [(137, .tuple #[.agg #[.int .i64 ((oneOf (fun p : Permit => decide (p.car = x9.car)) AA.1).car), .int .i64 ((oneOf (fun p : Permit => decide (p.car = x9.car)) AA.1).peak)], .bool (decide (0 ≤ idxOf (fun p : Permit => decide (p.car = x9.car)) AA.1))])] ⟨rfl, trivial⟩ (fun ρq => ?_)
                            refine o_extract (vs := [.agg #[.int .i64 ((oneOf (fun p : Permit => decide (p.car = x9.car)) AA.1).car), .int .i64 ((oneOf (fun p : Permit => decide (p.car = x9.car)) AA.1).peak)], .bool (decide (0 ≤ idxOf (fun p : Permit => decide (p.car = x9.car)) AA.1))]) (v := .agg #[.int .i64 ((oneOf (fun p : Permit => decide (p.car = x9.car)) AA.1).car), .int .i64 ((oneOf (fun p : Permit => decide (p.car = x9.car)) AA.1).peak)]) rfl rfl ?_
                            exact ⟨Kp.refl _ _, rfl⟩
                          · refine oblK_post rfl rfl (fun w269k vs lo hi hE hkn hap => ?_)
                            have hEs := hE.size
                            replace hK := hK.trans (Kp.ext hE)
                            replace hB6 := hB6.ext hE
                            replace hBu31 := hBu31.ext hE
                            replace hT := hT.ext hE
                            replace hR := hR.ext hE
                            replace hMs := hMs.ext hE
                            replace hRO := hRO.ext hE
                            replace hRS := hRS.ext hE
                            replace hTl := hTl.trans (Kp.ext hE)
                            replace hAz246 := At.ext hAz246 hE
                            refine oblK_n rfl ?_
                            refine opk_norm [(137, .tuple #[.agg #[.int .i64 ((oneOf (fun p : Permit => decide (p.car = x9.car)) AA.1).car), .int .i64 ((oneOf (fun p : Permit => decide (p.car = x9.car)) AA.1).peak)], .bool (decide (0 ≤ idxOf (fun p : Permit => decide (p.car = x9.car)) AA.1))])] ⟨rfl, trivial⟩ (fun ρq => ?_)
                            refine o_extract (vs := [.agg #[.int .i64 ((oneOf (fun p : Permit => decide (p.car = x9.car)) AA.1).car), .int .i64 ((oneOf (fun p : Permit => decide (p.car = x9.car)) AA.1).peak)], .bool (decide (0 ≤ idxOf (fun p : Permit => decide (p.car = x9.car)) AA.1))]) (v := .bool (decide (0 ≤ idxOf (fun p : Permit => decide (p.car = x9.car)) AA.1))) rfl rfl ?_
                            exact ⟨Kp.refl _ _, rfl⟩
                          · refine oblK_pre rfl rfl (fun w269k vs lo hi hE hkn hap => ?_)
                            have hEs := hE.size
                            replace hK := hK.trans (Kp.ext hE)
                            replace hB6 := hB6.ext hE
                            replace hBu31 := hBu31.ext hE
                            replace hT := hT.ext hE
                            replace hR := hR.ext hE
                            replace hMs := hMs.ext hE
                            replace hRO := hRO.ext hE
                            replace hRS := hRS.ext hE
                            replace hTl := hTl.trans (Kp.ext hE)
                            replace hAz246 := At.ext hAz246 hE
                            refine oblK_p rfl rfl ?_
                            refine opk_norm [] trivial (fun ρq => ?_)
                            refine o_alloc Tryd.zeroValue57 (fun b286 w287 hb288 hz289 hk290 hB291 => ?_)
                            replace hB291 : Box w287 b286 [.int .i64 (0), .int .i64 (0)] 57 := hB291
                            have hs_b286 := hK.size
                            have hl_b1_b286 := hB6.lt
                            have hl_b52_b286 := hBu31.lt
                            have ht_hTl_b286 := hTl.size
                            replace hK := hK.trans (Kp.ext hk290)
                            replace hB6 := hB6.ext hk290
                            replace hBu31 := hBu31.ext hk290
                            replace hT := hT.ext hk290
                            replace hR := hR.ext hk290
                            replace hMs := hMs.ext hk290
                            replace hRO := hRO.ext hk290
                            replace hRS := hRS.ext hk290
                            replace hTl := hTl.trans (Kp.ext hk290)
                            replace hAz246 := At.ext hAz246 hk290
                            exact ⟨hk290, rfl, hEs, ⟨by first | assumption | omega, hB291.lt⟩, hB291⟩
                          · refine oblK_pre rfl rfl (fun w269k vs lo hi hE hkn hap => ?_)
                            have hEs := hE.size
                            replace hK := hK.trans (Kp.ext hE)
                            replace hB6 := hB6.ext hE
                            replace hBu31 := hBu31.ext hE
                            replace hT := hT.ext hE
                            replace hR := hR.ext hE
                            replace hMs := hMs.ext hE
                            replace hRO := hRO.ext hE
                            replace hRS := hRS.ext hE
                            replace hTl := hTl.trans (Kp.ext hE)
                            replace hAz246 := At.ext hAz246 hE
                            obtain ⟨-, -, -, -, -, -, -, -, -, ⟨⟨hv10_t, hlo10_t, hge_b258_t, hB263_t⟩, hq1_10, hq2_10, hq3_10⟩, -⟩ := hkn
                            obtain ⟨b258, hv10, hlo10, hge_b258, hB263⟩ : ∃ (b258 : Nat), (vs 10 = .pointer (some ⟨b258, 0, none⟩)) ∧ (w194.heap.size ≤ (lo 10)) ∧ ((lo 10) ≤ b258 ∧ b258 < (hi 10)) ∧ (Box w269k b258 [.int .i64 (0), .int .i64 (0)] 57) := ⟨_, hv10_t, hlo10_t, hge_b258_t, hB263_t⟩
                            clear hB263_t hge_b258_t hlo10_t hv10_t
                            replace hq1_10 : w194.heap.size ≤ lo 10 := hq1_10
                            replace hq2_10 : lo 10 ≤ hi 10 := hq2_10
                            replace hq3_10 : hi 10 ≤ w269k.heap.size := hq3_10
                            refine oblK_s rfl ?_
                            refine opk_norm [(18, .pointer (some ⟨b258, 0, none⟩)), (145, .agg #[.int .i64 ((oneOf (fun p : Permit => decide (p.car = x9.car)) AA.1).car), .int .i64 ((oneOf (fun p : Permit => decide (p.car = x9.car)) AA.1).peak)])] ⟨hv10, rfl, trivial⟩ (fun ρq => ?_)
                            refine o_storeA (vs := [.int .i64 ((oneOf (fun p : Permit => decide (p.car = x9.car)) AA.1).car), .int .i64 ((oneOf (fun p : Permit => decide (p.car = x9.car)) AA.1).peak)]) rfl rfl hB263 tyA57 rfl rfl (Nat.le_of_ble_eq_true rfl) (fun w292 hk293 hz294 hB295 => ?_)
                            replace hB295 : Box w292 b258 [.int .i64 ((oneOf (fun p : Permit => decide (p.car = x9.car)) AA.1).car), .int .i64 ((oneOf (fun p : Permit => decide (p.car = x9.car)) AA.1).peak)] 57 := hB295
                            replace hK := hK.later hk293 (fun i hi hS => by have h1 : i = b258 := hS; omega)
                            replace hB6 := hB6.kp hk293 (by show ¬ b1 = b258; omega)
                            replace hBu31 := hBu31.kp hk293 (by show ¬ b52 = b258; omega)
                            replace hT := hT.kp hk293 (fun h => by have h2 : (0 : Nat) = b258 := h; omega)
                            replace hR := hR.kp hk293 (fun i _ hF hS => by have h1 : i < w.heap.size := hF; have h2 : i = b258 := hS; omega)
                            replace hMs := hMs.kp hk293 (fun i _ hF hS => by have h1 : i < w.heap.size := hF; have h2 : i = b258 := hS; omega)
                            replace hRO := hRO.kp hk293 (fun i _ hF hS => by have h1 : (lo65 9) ≤ i ∧ i < (hi66 9) := hF; have h2 : i = b258 := hS; omega)
                            replace hRS := hRS.kp hk293 (fun i _ hF hS => by have h1 : (lo65 9) ≤ i ∧ i < (hi66 9) := hF; have h2 : i = b258 := hS; omega)
                            replace hTl := hTl.trans (hk293.mono (fun _ _ _ => trivial))
                            replace hB263 := hB295
                            exact ⟨hk293.mono (fun k _ (e : k = b258) => by subst e; exact hge_b258), (show Box w292 (pBlk (vs 10)) [.int .i64 ((oneOf (fun p : Permit => decide (p.car = x9.car)) AA.1).car), .int .i64 ((oneOf (fun p : Permit => decide (p.car = x9.car)) AA.1).peak)] 57 from by (try simp only [hv10]); exact hB263)⟩
                          have hsE6 := hE273.size
                          replace hK := hK.trans (Kp.ext hE273)
                          replace hB6 := hB6.ext hE273
                          replace hBu31 := hBu31.ext hE273
                          replace hT := hT.ext hE273
                          replace hR := hR.ext hE273
                          replace hMs := hMs.ext hE273
                          replace hRO := hRO.ext hE273
                          replace hRS := hRS.ext hE273
                          replace hTl := hTl.trans (Kp.ext hE273)
                          replace hAz246 := At.ext hAz246 hE273
                          obtain ⟨⟨hBu247_t, hq1_11, hq2_11, hq3_11⟩, ⟨⟨hv10_t, hlo10_t, hge_b258_t⟩, hq1_10, hq2_10, hq3_10⟩, -, -, -, -, -, -, -, -, -, -, -⟩ := hkn274
                          obtain ⟨b258, hBu247, hv10, hlo10, hge_b258⟩ : ∃ (b258 : Nat), (Box w269 b258 [.int .i64 ((oneOf (fun p : Permit => decide (p.car = x9.car)) AA.1).car), .int .i64 ((oneOf (fun p : Permit => decide (p.car = x9.car)) AA.1).peak)] 57) ∧ (vs270 10 = .pointer (some ⟨b258, 0, none⟩)) ∧ (w194.heap.size ≤ (lo271 10)) ∧ ((lo271 10) ≤ b258 ∧ b258 < (hi272 10)) := ⟨_, hBu247_t, hv10_t, hlo10_t, hge_b258_t⟩
                          clear hge_b258_t hlo10_t hv10_t hBu247_t
                          replace hq1_11 : w194.heap.size ≤ lo271 11 := hq1_11
                          replace hq2_11 : lo271 11 ≤ hi272 11 := hq2_11
                          replace hq3_11 : hi272 11 ≤ w269.heap.size := hq3_11
                          replace hq1_10 : w194.heap.size ≤ lo271 10 := hq1_10
                          replace hq2_10 : lo271 10 ≤ hi272 10 := hq2_10
                          replace hq3_10 : hi272 10 ≤ w269.heap.size := hq3_10
                          refine rl_norm [(2, .slice am ms.length cm), (11, .pointer (some ⟨b52, 0, none⟩)), (12, .slice aoS AA.2.length cS), (13, .int .i64 ((i : Int))), (16, .bool (stp)), (18, .pointer (some ⟨b258, 0, none⟩)), (146, .bool (decide (0 ≤ idxOf (fun p : Permit => decide (p.car = x9.car)) AA.1)))] ⟨rfl, rfl, rfl, rfl, rfl, hv10, rfl, trivial⟩ (fun ρr268q => ?_)
                          refine rl (o_assign (v := .bool (decide (0 ≤ idxOf (fun p : Permit => decide (p.car = x9.car)) AA.1))) rfl ?_) rfl
                          refine rl_nil ?_
                          by_cases h297 : 0 ≤ idxOf (fun p : Permit => decide (p.car = x9.car)) AA.1
                          · skip
                            have ht_hTl_d7 := hTl.size
                            have hl_b1_d7 := hB6.lt
                            have hl_b52_d7 := hBu31.lt
                            have hl_b258_d7 := hBu247.lt
                            refine cw_norm [(2, .slice am ms.length cm), (11, .pointer (some ⟨b52, 0, none⟩)), (12, .slice aoS AA.2.length cS), (13, .int .i64 ((i : Int))), (16, .bool (stp)), (18, .pointer (some ⟨b258, 0, none⟩)), (19, .bool (decide (0 ≤ idxOf (fun p : Permit => decide (p.car = x9.car)) AA.1)))] ⟨rfl, rfl, rfl, rfl, rfl, rfl, rfl, trivial⟩ (fun ρr305 => ?_)
                            have hsr7 := hK.size
                            refine cw_drawnK (fun _ => False) (fun _ _ _ => False) 17 [.val (.bool (decide (0 ≤ idxOf (fun p : Permit => decide (p.car = x9.car)) AA.1))), .val (.bool (stp)), .val (.bool ((decide (0 ≤ idxOf (fun p : Permit => decide (p.car = x9.car)) AA.1)) == stp)), .val (.bool ((decide (0 ≤ idxOf (fun p : Permit => decide (p.car = x9.car)) AA.1)) == stp)), .val (.bool (decide (0 ≤ idxOf (fun p : Permit => decide (p.car = x9.car)) AA.1))), .val (.bool (decide (0 ≤ idxOf (fun p : Permit => decide (p.car = x9.car)) AA.1))), .val (.pointer (some ⟨b258, 1, none⟩)), .val (.int .i64 ((oneOf (fun p : Permit => decide (p.car = x9.car)) AA.1).peak)), .val (.slice am ms.length cm), .val (.int .i64 ((i : Int))), .val (.pointer (some ⟨bz246, oz246 + i * 2, none⟩)), .val (.pointer (some ⟨bz246, oz246 + i * 2 + 1, none⟩)), .val (.int .i64 (x9.peak)), .val (.int .i64 (min x9.peak 1048576))] [.val (.bool (decide (0 ≤ idxOf (fun p : Permit => decide (p.car = x9.car)) AA.1))), .val (.bool (stp)), .val (.bool ((decide (0 ≤ idxOf (fun p : Permit => decide (p.car = x9.car)) AA.1)) == stp)), .val (.bool ((decide (0 ≤ idxOf (fun p : Permit => decide (p.car = x9.car)) AA.1)) == stp)), .val (.bool (decide (0 ≤ idxOf (fun p : Permit => decide (p.car = x9.car)) AA.1))), .val (.bool (decide (0 ≤ idxOf (fun p : Permit => decide (p.car = x9.car)) AA.1))), .val (.pointer (some ⟨b258, 1, none⟩)), .val (.int .i64 ((oneOf (fun p : Permit => decide (p.car = x9.car)) AA.1).peak)), .val (.slice am ms.length cm), .val (.int .i64 ((i : Int))), .val (.pointer (some ⟨bz246, oz246 + i * 2, none⟩)), .val (.pointer (some ⟨bz246, oz246 + i * 2 + 1, none⟩)), .val (.int .i64 (x9.peak)), .val (.int .i64 (min x9.peak 1048576))] [[], [], [0, 1], [0, 1, 2], [0, 1, 2, 3], [0, 1, 2, 3, 4], [0, 1, 2, 3, 4, 5], [0, 1, 2, 3, 4, 5, 6], [0, 1, 2, 3, 4, 5], [0, 1, 2, 3, 4, 5], [0, 1, 2, 3, 4, 5, 8, 9], [0, 1, 2, 3, 4, 5, 8, 9, 10], [0, 1, 2, 3, 4, 5, 8, 9, 10, 11], [0, 1, 2, 3, 4, 5, 8, 9, 10, 11, 12], [0, 1, 2, 3, 4, 5, 6, 7, 8, 9, 10, 11, 12, 13], [0, 1, 2, 3, 4, 5, 6, 7, 8, 9, 10, 11, 12, 13, 14], [0, 1, 2, 3, 4, 5, 6, 7, 8, 9, 10, 11, 12, 13, 14, 15]] 14 mixed (by kernel_rfl) (fun _ _ _ _ _ h => h) ⟨upK_val, upK_val, upK_val, upK_val, upK_val, upK_val, upK_val, upK_val, upK_val, upK_val, upK_val, upK_val, upK_val, upK_val, trivial⟩ ⟨⟨⟨⟨⟨⟨⟨⟨⟨⟨⟨⟨⟨⟨trivial, ?_⟩, ?_⟩, ?_⟩, ?_⟩, ?_⟩, ?_⟩, ?_⟩, ?_⟩, ?_⟩, ?_⟩, ?_⟩, ?_⟩, ?_⟩, ?_⟩ (fun w306 vs307 lo308 hi309 hE310 hkn311 hap312 => ?_)
                            · refine oblK_post rfl rfl (fun w306k vs lo hi hE hkn hap => ?_)
                              have hEs := hE.size
                              replace hK := hK.trans (Kp.ext hE)
                              replace hB6 := hB6.ext hE
                              replace hBu31 := hBu31.ext hE
                              replace hBu247 := hBu247.ext hE
                              replace hT := hT.ext hE
                              replace hR := hR.ext hE
                              replace hMs := hMs.ext hE
                              replace hRO := hRO.ext hE
                              replace hRS := hRS.ext hE
                              replace hTl := hTl.trans (Kp.ext hE)
                              replace hAz246 := At.ext hAz246 hE
                              refine oblK_n rfl ?_
                              refine opk_norm [(19, .bool (decide (0 ≤ idxOf (fun p : Permit => decide (p.car = x9.car)) AA.1)))] ⟨rfl, trivial⟩ (fun ρq => ?_)
                              refine o_move (v := .bool (decide (0 ≤ idxOf (fun p : Permit => decide (p.car = x9.car)) AA.1))) rfl ?_
                              exact ⟨Kp.refl _ _, rfl⟩
                            · refine oblK_post rfl rfl (fun w306k vs lo hi hE hkn hap => ?_)
                              have hEs := hE.size
                              replace hK := hK.trans (Kp.ext hE)
                              replace hB6 := hB6.ext hE
                              replace hBu31 := hBu31.ext hE
                              replace hBu247 := hBu247.ext hE
                              replace hT := hT.ext hE
                              replace hR := hR.ext hE
                              replace hMs := hMs.ext hE
                              replace hRO := hRO.ext hE
                              replace hRS := hRS.ext hE
                              replace hTl := hTl.trans (Kp.ext hE)
                              replace hAz246 := At.ext hAz246 hE
                              refine oblK_n rfl ?_
                              refine opk_norm [(16, .bool (stp))] ⟨rfl, trivial⟩ (fun ρq => ?_)
                              refine o_move (v := .bool (stp)) rfl ?_
                              exact ⟨Kp.refl _ _, rfl⟩
                            · refine oblK_post rfl rfl (fun w306k vs lo hi hE hkn hap => ?_)
                              have hEs := hE.size
                              replace hK := hK.trans (Kp.ext hE)
                              replace hB6 := hB6.ext hE
                              replace hBu31 := hBu31.ext hE
                              replace hBu247 := hBu247.ext hE
                              replace hT := hT.ext hE
                              replace hR := hR.ext hE
                              replace hMs := hMs.ext hE
                              replace hRO := hRO.ext hE
                              replace hRS := hRS.ext hE
                              replace hTl := hTl.trans (Kp.ext hE)
                              replace hAz246 := At.ext hAz246 hE
                              refine oblK_n rfl ?_
                              refine opk_norm [(147, .bool (decide (0 ≤ idxOf (fun p : Permit => decide (p.car = x9.car)) AA.1))), (148, .bool (stp))] ⟨rfl, rfl, trivial⟩ (fun ρq => ?_)
                              refine o_eqlB (a := decide (0 ≤ idxOf (fun p : Permit => decide (p.car = x9.car)) AA.1)) (b := stp) rfl rfl Tryd.underlying4 ?_
                              exact ⟨Kp.refl _ _, rfl⟩
                            · refine oblK_post rfl rfl (fun w306k vs lo hi hE hkn hap => ?_)
                              have hEs := hE.size
                              replace hK := hK.trans (Kp.ext hE)
                              replace hB6 := hB6.ext hE
                              replace hBu31 := hBu31.ext hE
                              replace hBu247 := hBu247.ext hE
                              replace hT := hT.ext hE
                              replace hR := hR.ext hE
                              replace hMs := hMs.ext hE
                              replace hRO := hRO.ext hE
                              replace hRS := hRS.ext hE
                              replace hTl := hTl.trans (Kp.ext hE)
                              replace hAz246 := At.ext hAz246 hE
                              refine oblK_n rfl ?_
                              refine opk_norm [(149, .bool ((decide (0 ≤ idxOf (fun p : Permit => decide (p.car = x9.car)) AA.1)) == stp))] ⟨rfl, trivial⟩ (fun ρq => ?_)
                              refine o_move (v := .bool ((decide (0 ≤ idxOf (fun p : Permit => decide (p.car = x9.car)) AA.1)) == stp)) rfl ?_
                              exact ⟨Kp.refl _ _, rfl⟩
                            · refine oblK_post rfl rfl (fun w306k vs lo hi hE hkn hap => ?_)
                              have hEs := hE.size
                              replace hK := hK.trans (Kp.ext hE)
                              replace hB6 := hB6.ext hE
                              replace hBu31 := hBu31.ext hE
                              replace hBu247 := hBu247.ext hE
                              replace hT := hT.ext hE
                              replace hR := hR.ext hE
                              replace hMs := hMs.ext hE
                              replace hRO := hRO.ext hE
                              replace hRS := hRS.ext hE
                              replace hTl := hTl.trans (Kp.ext hE)
                              replace hAz246 := At.ext hAz246 hE
                              refine oblK_n (want_t rfl (hne)) ?_
                              refine opk_norm [(19, .bool (decide (0 ≤ idxOf (fun p : Permit => decide (p.car = x9.car)) AA.1))), (150, .bool ((decide (0 ≤ idxOf (fun p : Permit => decide (p.car = x9.car)) AA.1)) == stp))] ⟨rfl, rfl, trivial⟩ (fun ρq => ?_)
                              refine o_move (v := .bool (decide (0 ≤ idxOf (fun p : Permit => decide (p.car = x9.car)) AA.1))) rfl ?_
                              exact ⟨Kp.refl _ _, rfl⟩
                            · refine oblK_post rfl rfl (fun w306k vs lo hi hE hkn hap => ?_)
                              have hEs := hE.size
                              replace hK := hK.trans (Kp.ext hE)
                              replace hB6 := hB6.ext hE
                              replace hBu31 := hBu31.ext hE
                              replace hBu247 := hBu247.ext hE
                              replace hT := hT.ext hE
                              replace hR := hR.ext hE
                              replace hMs := hMs.ext hE
                              replace hRO := hRO.ext hE
                              replace hRS := hRS.ext hE
                              replace hTl := hTl.trans (Kp.ext hE)
                              replace hAz246 := At.ext hAz246 hE
                              refine oblK_n (want_t rfl (hne)) ?_
                              refine opk_norm [(150, .bool ((decide (0 ≤ idxOf (fun p : Permit => decide (p.car = x9.car)) AA.1)) == stp)), (151, .bool (decide (0 ≤ idxOf (fun p : Permit => decide (p.car = x9.car)) AA.1)))] ⟨rfl, rfl, trivial⟩ (fun ρq => ?_)
                              refine o_move (v := .bool (decide (0 ≤ idxOf (fun p : Permit => decide (p.car = x9.car)) AA.1))) rfl ?_
                              exact ⟨Kp.refl _ _, rfl⟩
                            · refine oblK_post rfl rfl (fun w306k vs lo hi hE hkn hap => ?_)
                              have hEs := hE.size
                              replace hK := hK.trans (Kp.ext hE)
                              replace hB6 := hB6.ext hE
                              replace hBu31 := hBu31.ext hE
                              replace hBu247 := hBu247.ext hE
                              replace hT := hT.ext hE
                              replace hR := hR.ext hE
                              replace hMs := hMs.ext hE
                              replace hRO := hRO.ext hE
                              replace hRS := hRS.ext hE
                              replace hTl := hTl.trans (Kp.ext hE)
                              replace hAz246 := At.ext hAz246 hE
                              refine oblK_n (want_t rfl (decide_eq_true h297)) ?_
                              refine opk_norm [(18, .pointer (some ⟨b258, 0, none⟩)), (152, .bool (decide (0 ≤ idxOf (fun p : Permit => decide (p.car = x9.car)) AA.1)))] ⟨rfl, rfl, trivial⟩ (fun ρq => ?_)
                              refine o_field rfl fa57_1 ?_
                              exact ⟨Kp.refl _ _, rfl⟩
                            · refine oblK_post rfl rfl (fun w306k vs lo hi hE hkn hap => ?_)
                              have hEs := hE.size
                              replace hK := hK.trans (Kp.ext hE)
                              replace hB6 := hB6.ext hE
                              replace hBu31 := hBu31.ext hE
                              replace hBu247 := hBu247.ext hE
                              replace hT := hT.ext hE
                              replace hR := hR.ext hE
                              replace hMs := hMs.ext hE
                              replace hRO := hRO.ext hE
                              replace hRS := hRS.ext hE
                              replace hTl := hTl.trans (Kp.ext hE)
                              replace hAz246 := At.ext hAz246 hE
                              refine oblK_n (want_t rfl (decide_eq_true h297)) ?_
                              refine opk_norm [(152, .bool (decide (0 ≤ idxOf (fun p : Permit => decide (p.car = x9.car)) AA.1))), (153, .pointer (some ⟨b258, 1, none⟩))] ⟨rfl, rfl, trivial⟩ (fun ρq => ?_)
                              refine o_loadB (v := .int .i64 ((oneOf (fun p : Permit => decide (p.car = x9.car)) AA.1).peak)) rfl hBu247 tyS3 rfl ?_
                              exact ⟨Kp.refl _ _, rfl⟩
                            · refine oblK_post rfl rfl (fun w306k vs lo hi hE hkn hap => ?_)
                              have hEs := hE.size
                              replace hK := hK.trans (Kp.ext hE)
                              replace hB6 := hB6.ext hE
                              replace hBu31 := hBu31.ext hE
                              replace hBu247 := hBu247.ext hE
                              replace hT := hT.ext hE
                              replace hR := hR.ext hE
                              replace hMs := hMs.ext hE
                              replace hRO := hRO.ext hE
                              replace hRS := hRS.ext hE
                              replace hTl := hTl.trans (Kp.ext hE)
                              replace hAz246 := At.ext hAz246 hE
                              refine oblK_n (want_t rfl (decide_eq_true h297)) ?_
                              refine opk_norm [(2, .slice am ms.length cm), (152, .bool (decide (0 ≤ idxOf (fun p : Permit => decide (p.car = x9.car)) AA.1)))] ⟨rfl, rfl, trivial⟩ (fun ρq => ?_)
                              refine o_move (v := .slice am ms.length cm) rfl ?_
                              exact ⟨Kp.refl _ _, rfl⟩
                            · refine oblK_post rfl rfl (fun w306k vs lo hi hE hkn hap => ?_)
                              have hEs := hE.size
                              replace hK := hK.trans (Kp.ext hE)
                              replace hB6 := hB6.ext hE
                              replace hBu31 := hBu31.ext hE
                              replace hBu247 := hBu247.ext hE
                              replace hT := hT.ext hE
                              replace hR := hR.ext hE
                              replace hMs := hMs.ext hE
                              replace hRO := hRO.ext hE
                              replace hRS := hRS.ext hE
                              replace hTl := hTl.trans (Kp.ext hE)
                              replace hAz246 := At.ext hAz246 hE
                              refine oblK_n (want_t rfl (decide_eq_true h297)) ?_
                              refine opk_norm [(13, .int .i64 ((i : Int))), (152, .bool (decide (0 ≤ idxOf (fun p : Permit => decide (p.car = x9.car)) AA.1)))] ⟨rfl, rfl, trivial⟩ (fun ρq => ?_)
                              refine o_move (v := .int .i64 ((i : Int))) rfl ?_
                              exact ⟨Kp.refl _ _, rfl⟩
                            · refine oblK_post rfl rfl (fun w306k vs lo hi hE hkn hap => ?_)
                              have hEs := hE.size
                              replace hK := hK.trans (Kp.ext hE)
                              replace hB6 := hB6.ext hE
                              replace hBu31 := hBu31.ext hE
                              replace hBu247 := hBu247.ext hE
                              replace hT := hT.ext hE
                              replace hR := hR.ext hE
                              replace hMs := hMs.ext hE
                              replace hRO := hRO.ext hE
                              replace hRS := hRS.ext hE
                              replace hTl := hTl.trans (Kp.ext hE)
                              replace hAz246 := At.ext hAz246 hE
                              refine oblK_n (want_t rfl (decide_eq_true h297)) ?_
                              refine opk_norm [(152, .bool (decide (0 ≤ idxOf (fun p : Permit => decide (p.car = x9.car)) AA.1))), (155, .slice am ms.length cm), (156, .int .i64 ((i : Int)))] ⟨rfl, rfl, rfl, trivial⟩ (fun ρq => ?_)
                              refine o_idxAt i rfl rfl Tryd.underlying49 Tryd.sizeOf56 haoz246 (by omega) (by omega) ?_
                              exact ⟨Kp.refl _ _, rfl⟩
                            · refine oblK_post rfl rfl (fun w306k vs lo hi hE hkn hap => ?_)
                              have hEs := hE.size
                              replace hK := hK.trans (Kp.ext hE)
                              replace hB6 := hB6.ext hE
                              replace hBu31 := hBu31.ext hE
                              replace hBu247 := hBu247.ext hE
                              replace hT := hT.ext hE
                              replace hR := hR.ext hE
                              replace hMs := hMs.ext hE
                              replace hRO := hRO.ext hE
                              replace hRS := hRS.ext hE
                              replace hTl := hTl.trans (Kp.ext hE)
                              replace hAz246 := At.ext hAz246 hE
                              refine oblK_n (want_t rfl (decide_eq_true h297)) ?_
                              refine opk_norm [(152, .bool (decide (0 ≤ idxOf (fun p : Permit => decide (p.car = x9.car)) AA.1))), (157, .pointer (some ⟨bz246, oz246 + i * 2, none⟩))] ⟨rfl, rfl, trivial⟩ (fun ρq => ?_)
                              refine o_field rfl fa56_1 ?_
                              exact ⟨Kp.refl _ _, rfl⟩
                            · refine oblK_post rfl rfl (fun w306k vs lo hi hE hkn hap => ?_)
                              have hEs := hE.size
                              replace hK := hK.trans (Kp.ext hE)
                              replace hB6 := hB6.ext hE
                              replace hBu31 := hBu31.ext hE
                              replace hBu247 := hBu247.ext hE
                              replace hT := hT.ext hE
                              replace hR := hR.ext hE
                              replace hMs := hMs.ext hE
                              replace hRO := hRO.ext hE
                              replace hRS := hRS.ext hE
                              replace hTl := hTl.trans (Kp.ext hE)
                              replace hAz246 := At.ext hAz246 hE
                              refine oblK_n (want_t rfl (decide_eq_true h297)) ?_
                              refine opk_norm [(152, .bool (decide (0 ≤ idxOf (fun p : Permit => decide (p.car = x9.car)) AA.1))), (158, .pointer (some ⟨bz246, oz246 + i * 2 + 1, none⟩))] ⟨rfl, rfl, trivial⟩ (fun ρq => ?_)
                              refine o_load (v := .int .i64 (x9.peak)) rfl tyS3 (hAz246 1 _ rfl) ?_
                              exact ⟨Kp.refl _ _, rfl⟩
                            · refine oblK_post rfl rfl (fun w306k vs lo hi hE hkn hap => ?_)
                              have hEs := hE.size
                              replace hK := hK.trans (Kp.ext hE)
                              replace hB6 := hB6.ext hE
                              replace hBu31 := hBu31.ext hE
                              replace hBu247 := hBu247.ext hE
                              replace hT := hT.ext hE
                              replace hR := hR.ext hE
                              replace hMs := hMs.ext hE
                              replace hRO := hRO.ext hE
                              replace hRS := hRS.ext hE
                              replace hTl := hTl.trans (Kp.ext hE)
                              replace hAz246 := At.ext hAz246 hE
                              refine oblK_n (want_t rfl (decide_eq_true h297)) ?_
                              refine opk_norm [(152, .bool (decide (0 ≤ idxOf (fun p : Permit => decide (p.car = x9.car)) AA.1))), (159, .int .i64 (x9.peak))] ⟨rfl, rfl, trivial⟩ (fun ρq => ?_)
                              refine o_min rfl rfl ?_
                              exact ⟨Kp.refl _ _, rfl⟩
                            have hsE7 := hE310.size
                            replace hK := hK.trans (Kp.ext hE310)
                            replace hB6 := hB6.ext hE310
                            replace hBu31 := hBu31.ext hE310
                            replace hBu247 := hBu247.ext hE310
                            replace hT := hT.ext hE310
                            replace hR := hR.ext hE310
                            replace hMs := hMs.ext hE310
                            replace hRO := hRO.ext hE310
                            replace hRS := hRS.ext hE310
                            replace hTl := hTl.trans (Kp.ext hE310)
                            replace hAz246 := At.ext hAz246 hE310
                            refine rl_norm [(2, .slice am ms.length cm), (11, .pointer (some ⟨b52, 0, none⟩)), (12, .slice aoS AA.2.length cS), (13, .int .i64 ((i : Int))), (150, .bool ((decide (0 ≤ idxOf (fun p : Permit => decide (p.car = x9.car)) AA.1)) == stp)), (152, .bool (decide (0 ≤ idxOf (fun p : Permit => decide (p.car = x9.car)) AA.1))), (154, .int .i64 ((oneOf (fun p : Permit => decide (p.car = x9.car)) AA.1).peak)), (160, .int .i64 (min x9.peak 1048576))] ⟨rfl, rfl, rfl, rfl, rfl, rfl, rfl, rfl, trivial⟩ (fun ρr305q => ?_)
                            refine rl (o_lss rfl rfl ?_) (want_t rfl (decide_eq_true h297))
                            refine rl (o_pickT (v := .bool (decide ((oneOf (fun p : Permit => decide (p.car = x9.car)) AA.1).peak < min x9.peak 1048576))) rfl (decide_eq_true h297) rfl ?_) (want_t rfl (hne))
                            refine rl (o_pickF (v := .bool (decide ((oneOf (fun p : Permit => decide (p.car = x9.car)) AA.1).peak < min x9.peak 1048576))) rfl (hne) rfl ?_) rfl
                            refine rl_nil ?_
                            refine cw_condKF rfl ((decide_eq_false (hpk (by assumption)))) ?_
                            refine cw_skip ?_
                            refine k_bn ?_
                            refine k_tn ?_
                            refine cw_norm [(2, .slice am ms.length cm), (11, .pointer (some ⟨b52, 0, none⟩)), (12, .slice aoS AA.2.length cS), (13, .int .i64 ((i : Int)))] ⟨rfl, rfl, rfl, rfl, trivial⟩ (fun ρn319 => ?_)
                            refine cw_region rfl ?_
                            refine rl (o_move (v := .int .i64 ((i : Int))) rfl ?_) rfl
                            refine rl (o_add64 (a := (i : Int)) (b := 1) rfl rfl (by omega) (by omega) ?_) rfl
                            refine rl (o_assign (v := .int .i64 ((i : Int) + 1)) rfl ?_) rfl
                            refine rl_nil ?_
                            refine k_tn ?_
                            refine ⟨_, ?_, _, i + 1, upds_eq _ _ ⟨rfl, rfl, rfl, rfl, trivial⟩, rfl, (by omega), hK, hB6, hBu31, hT, hR, hMs, hRO, hRS, hTl⟩
                            omega
                          · skip
                            have ht_hTl_d8 := hTl.size
                            have hl_b1_d8 := hB6.lt
                            have hl_b52_d8 := hBu31.lt
                            have hl_b258_d8 := hBu247.lt
                            refine cw_norm [(2, .slice am ms.length cm), (11, .pointer (some ⟨b52, 0, none⟩)), (12, .slice aoS AA.2.length cS), (13, .int .i64 ((i : Int))), (16, .bool (stp)), (18, .pointer (some ⟨b258, 0, none⟩)), (19, .bool (decide (0 ≤ idxOf (fun p : Permit => decide (p.car = x9.car)) AA.1)))] ⟨rfl, rfl, rfl, rfl, rfl, rfl, rfl, trivial⟩ (fun ρr321 => ?_)
                            have hsr8 := hK.size
                            refine cw_drawnK (fun _ => False) (fun _ _ _ => False) 17 [.val (.bool (decide (0 ≤ idxOf (fun p : Permit => decide (p.car = x9.car)) AA.1))), .val (.bool (stp)), .val (.bool ((decide (0 ≤ idxOf (fun p : Permit => decide (p.car = x9.car)) AA.1)) == stp)), .val (.bool ((decide (0 ≤ idxOf (fun p : Permit => decide (p.car = x9.car)) AA.1)) == stp)), .val (.bool (decide (0 ≤ idxOf (fun p : Permit => decide (p.car = x9.car)) AA.1))), .val (.bool (decide (0 ≤ idxOf (fun p : Permit => decide (p.car = x9.car)) AA.1))), .val (undef), .val (undef), .val (undef), .val (undef), .val (undef), .val (undef), .val (undef), .val (undef)] [.val (.bool (decide (0 ≤ idxOf (fun p : Permit => decide (p.car = x9.car)) AA.1))), .val (.bool (stp)), .val (.bool ((decide (0 ≤ idxOf (fun p : Permit => decide (p.car = x9.car)) AA.1)) == stp)), .val (.bool ((decide (0 ≤ idxOf (fun p : Permit => decide (p.car = x9.car)) AA.1)) == stp)), .val (.bool (decide (0 ≤ idxOf (fun p : Permit => decide (p.car = x9.car)) AA.1))), .val (.bool (decide (0 ≤ idxOf (fun p : Permit => decide (p.car = x9.car)) AA.1))), .val (undef), .val (undef), .val (undef), .val (undef), .val (undef), .val (undef), .val (undef), .val (undef)] [[], [], [0, 1], [0, 1, 2], [0, 1, 2, 3], [0, 1, 2, 3, 4], [0, 1, 2, 3, 4, 5], [0, 1, 2, 3, 4, 5, 6], [0, 1, 2, 3, 4, 5], [0, 1, 2, 3, 4, 5], [0, 1, 2, 3, 4, 5, 8, 9], [0, 1, 2, 3, 4, 5, 8, 9, 10], [0, 1, 2, 3, 4, 5, 8, 9, 10, 11], [0, 1, 2, 3, 4, 5, 8, 9, 10, 11, 12], [0, 1, 2, 3, 4, 5, 6, 7, 8, 9, 10, 11, 12, 13], [0, 1, 2, 3, 4, 5, 6, 7, 8, 9, 10, 11, 12, 13, 14], [0, 1, 2, 3, 4, 5, 6, 7, 8, 9, 10, 11, 12, 13, 14, 15]] 14 mixed (by kernel_rfl) (fun _ _ _ _ _ h => h) ⟨upK_val, upK_val, upK_val, upK_val, upK_val, upK_val, upK_val, upK_val, upK_val, upK_val, upK_val, upK_val, upK_val, upK_val, trivial⟩ ⟨⟨⟨⟨⟨⟨⟨⟨⟨⟨⟨⟨⟨⟨trivial, ?_⟩, ?_⟩, ?_⟩, ?_⟩, ?_⟩, ?_⟩, ?_⟩, ?_⟩, ?_⟩, ?_⟩, ?_⟩, ?_⟩, ?_⟩, ?_⟩ (fun w322 vs323 lo324 hi325 hE326 hkn327 hap328 => ?_)
                            · refine oblK_post rfl rfl (fun w322k vs lo hi hE hkn hap => ?_)
                              have hEs := hE.size
                              replace hK := hK.trans (Kp.ext hE)
                              replace hB6 := hB6.ext hE
                              replace hBu31 := hBu31.ext hE
                              replace hBu247 := hBu247.ext hE
                              replace hT := hT.ext hE
                              replace hR := hR.ext hE
                              replace hMs := hMs.ext hE
                              replace hRO := hRO.ext hE
                              replace hRS := hRS.ext hE
                              replace hTl := hTl.trans (Kp.ext hE)
                              replace hAz246 := At.ext hAz246 hE
                              refine oblK_n rfl ?_
                              refine opk_norm [(19, .bool (decide (0 ≤ idxOf (fun p : Permit => decide (p.car = x9.car)) AA.1)))] ⟨rfl, trivial⟩ (fun ρq => ?_)
                              refine o_move (v := .bool (decide (0 ≤ idxOf (fun p : Permit => decide (p.car = x9.car)) AA.1))) rfl ?_
                              exact ⟨Kp.refl _ _, rfl⟩
                            · refine oblK_post rfl rfl (fun w322k vs lo hi hE hkn hap => ?_)
                              have hEs := hE.size
                              replace hK := hK.trans (Kp.ext hE)
                              replace hB6 := hB6.ext hE
                              replace hBu31 := hBu31.ext hE
                              replace hBu247 := hBu247.ext hE
                              replace hT := hT.ext hE
                              replace hR := hR.ext hE
                              replace hMs := hMs.ext hE
                              replace hRO := hRO.ext hE
                              replace hRS := hRS.ext hE
                              replace hTl := hTl.trans (Kp.ext hE)
                              replace hAz246 := At.ext hAz246 hE
                              refine oblK_n rfl ?_
                              refine opk_norm [(16, .bool (stp))] ⟨rfl, trivial⟩ (fun ρq => ?_)
                              refine o_move (v := .bool (stp)) rfl ?_
                              exact ⟨Kp.refl _ _, rfl⟩
                            · refine oblK_post rfl rfl (fun w322k vs lo hi hE hkn hap => ?_)
                              have hEs := hE.size
                              replace hK := hK.trans (Kp.ext hE)
                              replace hB6 := hB6.ext hE
                              replace hBu31 := hBu31.ext hE
                              replace hBu247 := hBu247.ext hE
                              replace hT := hT.ext hE
                              replace hR := hR.ext hE
                              replace hMs := hMs.ext hE
                              replace hRO := hRO.ext hE
                              replace hRS := hRS.ext hE
                              replace hTl := hTl.trans (Kp.ext hE)
                              replace hAz246 := At.ext hAz246 hE
                              refine oblK_n rfl ?_
                              refine opk_norm [(147, .bool (decide (0 ≤ idxOf (fun p : Permit => decide (p.car = x9.car)) AA.1))), (148, .bool (stp))] ⟨rfl, rfl, trivial⟩ (fun ρq => ?_)
                              refine o_eqlB (a := decide (0 ≤ idxOf (fun p : Permit => decide (p.car = x9.car)) AA.1)) (b := stp) rfl rfl Tryd.underlying4 ?_
                              exact ⟨Kp.refl _ _, rfl⟩
                            · refine oblK_post rfl rfl (fun w322k vs lo hi hE hkn hap => ?_)
                              have hEs := hE.size
                              replace hK := hK.trans (Kp.ext hE)
                              replace hB6 := hB6.ext hE
                              replace hBu31 := hBu31.ext hE
                              replace hBu247 := hBu247.ext hE
                              replace hT := hT.ext hE
                              replace hR := hR.ext hE
                              replace hMs := hMs.ext hE
                              replace hRO := hRO.ext hE
                              replace hRS := hRS.ext hE
                              replace hTl := hTl.trans (Kp.ext hE)
                              replace hAz246 := At.ext hAz246 hE
                              refine oblK_n rfl ?_
                              refine opk_norm [(149, .bool ((decide (0 ≤ idxOf (fun p : Permit => decide (p.car = x9.car)) AA.1)) == stp))] ⟨rfl, trivial⟩ (fun ρq => ?_)
                              refine o_move (v := .bool ((decide (0 ≤ idxOf (fun p : Permit => decide (p.car = x9.car)) AA.1)) == stp)) rfl ?_
                              exact ⟨Kp.refl _ _, rfl⟩
                            · refine oblK_post rfl rfl (fun w322k vs lo hi hE hkn hap => ?_)
                              have hEs := hE.size
                              replace hK := hK.trans (Kp.ext hE)
                              replace hB6 := hB6.ext hE
                              replace hBu31 := hBu31.ext hE
                              replace hBu247 := hBu247.ext hE
                              replace hT := hT.ext hE
                              replace hR := hR.ext hE
                              replace hMs := hMs.ext hE
                              replace hRO := hRO.ext hE
                              replace hRS := hRS.ext hE
                              replace hTl := hTl.trans (Kp.ext hE)
                              replace hAz246 := At.ext hAz246 hE
                              refine oblK_n (want_t rfl (hne)) ?_
                              refine opk_norm [(19, .bool (decide (0 ≤ idxOf (fun p : Permit => decide (p.car = x9.car)) AA.1))), (150, .bool ((decide (0 ≤ idxOf (fun p : Permit => decide (p.car = x9.car)) AA.1)) == stp))] ⟨rfl, rfl, trivial⟩ (fun ρq => ?_)
                              refine o_move (v := .bool (decide (0 ≤ idxOf (fun p : Permit => decide (p.car = x9.car)) AA.1))) rfl ?_
                              exact ⟨Kp.refl _ _, rfl⟩
                            · refine oblK_post rfl rfl (fun w322k vs lo hi hE hkn hap => ?_)
                              have hEs := hE.size
                              replace hK := hK.trans (Kp.ext hE)
                              replace hB6 := hB6.ext hE
                              replace hBu31 := hBu31.ext hE
                              replace hBu247 := hBu247.ext hE
                              replace hT := hT.ext hE
                              replace hR := hR.ext hE
                              replace hMs := hMs.ext hE
                              replace hRO := hRO.ext hE
                              replace hRS := hRS.ext hE
                              replace hTl := hTl.trans (Kp.ext hE)
                              replace hAz246 := At.ext hAz246 hE
                              refine oblK_n (want_t rfl (hne)) ?_
                              refine opk_norm [(150, .bool ((decide (0 ≤ idxOf (fun p : Permit => decide (p.car = x9.car)) AA.1)) == stp)), (151, .bool (decide (0 ≤ idxOf (fun p : Permit => decide (p.car = x9.car)) AA.1)))] ⟨rfl, rfl, trivial⟩ (fun ρq => ?_)
                              refine o_move (v := .bool (decide (0 ≤ idxOf (fun p : Permit => decide (p.car = x9.car)) AA.1))) rfl ?_
                              exact ⟨Kp.refl _ _, rfl⟩
                            · refine oblK_post rfl rfl (fun w322k vs lo hi hE hkn hap => ?_)
                              exact oblK_nf rfl (want_f rfl (decide_eq_false h297) (by decide))
                            · refine oblK_post rfl rfl (fun w322k vs lo hi hE hkn hap => ?_)
                              exact oblK_nf rfl (want_f rfl (decide_eq_false h297) (by decide))
                            · refine oblK_post rfl rfl (fun w322k vs lo hi hE hkn hap => ?_)
                              exact oblK_nf rfl (want_f rfl (decide_eq_false h297) (by decide))
                            · refine oblK_post rfl rfl (fun w322k vs lo hi hE hkn hap => ?_)
                              exact oblK_nf rfl (want_f rfl (decide_eq_false h297) (by decide))
                            · refine oblK_post rfl rfl (fun w322k vs lo hi hE hkn hap => ?_)
                              exact oblK_nf rfl (want_f rfl (decide_eq_false h297) (by decide))
                            · refine oblK_post rfl rfl (fun w322k vs lo hi hE hkn hap => ?_)
                              exact oblK_nf rfl (want_f rfl (decide_eq_false h297) (by decide))
                            · refine oblK_post rfl rfl (fun w322k vs lo hi hE hkn hap => ?_)
                              exact oblK_nf rfl (want_f rfl (decide_eq_false h297) (by decide))
                            · refine oblK_post rfl rfl (fun w322k vs lo hi hE hkn hap => ?_)
                              exact oblK_nf rfl (want_f rfl (decide_eq_false h297) (by decide))
                            have hsE8 := hE326.size
                            replace hK := hK.trans (Kp.ext hE326)
                            replace hB6 := hB6.ext hE326
                            replace hBu31 := hBu31.ext hE326
                            replace hBu247 := hBu247.ext hE326
                            replace hT := hT.ext hE326
                            replace hR := hR.ext hE326
                            replace hMs := hMs.ext hE326
                            replace hRO := hRO.ext hE326
                            replace hRS := hRS.ext hE326
                            replace hTl := hTl.trans (Kp.ext hE326)
                            replace hAz246 := At.ext hAz246 hE326
                            refine rl_norm [(2, .slice am ms.length cm), (11, .pointer (some ⟨b52, 0, none⟩)), (12, .slice aoS AA.2.length cS), (13, .int .i64 ((i : Int))), (150, .bool ((decide (0 ≤ idxOf (fun p : Permit => decide (p.car = x9.car)) AA.1)) == stp)), (152, .bool (decide (0 ≤ idxOf (fun p : Permit => decide (p.car = x9.car)) AA.1)))] ⟨rfl, rfl, rfl, rfl, rfl, rfl, trivial⟩ (fun ρr321q => ?_)
                            refine rlo ?_ (want_f rfl (decide_eq_false h297) (by decide))
                            refine rl (o_pickF (v := .bool (false)) rfl (decide_eq_false h297) rfl ?_) (want_t rfl (hne))
                            refine rl (o_pickF (v := .bool (false)) rfl (hne) rfl ?_) rfl
                            refine rl_nil ?_
                            refine cw_condF rfl ?_
                            refine cw_skip ?_
                            refine k_bn ?_
                            refine k_tn ?_
                            refine cw_norm [(2, .slice am ms.length cm), (11, .pointer (some ⟨b52, 0, none⟩)), (12, .slice aoS AA.2.length cS), (13, .int .i64 ((i : Int)))] ⟨rfl, rfl, rfl, rfl, trivial⟩ (fun ρn329 => ?_)
                            refine cw_region rfl ?_
                            refine rl (o_move (v := .int .i64 ((i : Int))) rfl ?_) rfl
                            refine rl (o_add64 (a := (i : Int)) (b := 1) rfl rfl (by omega) (by omega) ?_) rfl
                            refine rl (o_assign (v := .int .i64 ((i : Int) + 1)) rfl ?_) rfl
                            refine rl_nil ?_
                            refine k_tn ?_
                            refine ⟨_, ?_, _, i + 1, upds_eq _ _ ⟨rfl, rfl, rfl, rfl, trivial⟩, rfl, (by omega), hK, hB6, hBu31, hT, hR, hMs, hRO, hRS, hTl⟩
                            omega
          · skip
            refine cw_exit ?_
            refine k_te ?_
            refine k_te ?_
            refine k_bh ?_
            refine k_tn ?_
            refine cw_norm [] trivial (fun ρn330 => ?_)
            refine cw_reg rfl ?_
            refine rl (o_assign (v := .bool (true)) rfl ?_) rfl
            refine rl_nil ?_
            refine cw_ret ?_
            refine ret_intro (v := .bool (true)) (res_ok (vs := [.bool (true)]) rfl ⟨rfl, trivial⟩) hK ?_
            exact rfl
end Go.Proofs.YtcmlklnelipacaaDoor

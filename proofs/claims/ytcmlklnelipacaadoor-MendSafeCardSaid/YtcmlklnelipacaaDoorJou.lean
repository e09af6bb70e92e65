import Derived.Test.YtcmlklnelipacaaDoorGet
set_option linter.unusedVariables false
set_option linter.unusedSimpArgs false
set_option maxRecDepth 100000
namespace Go.Proofs.YtcmlklnelipacaaDoor
open Go.RowKit Plain

theorem isB_append {a b : List Int} (ha : isB a) (hb : isB b) : isB (a ++ b) := fun x hx => (List.mem_append.1 hx).elim (ha x) (hb x)
theorem isB_join (rows : List (List Int)) (h : ∀ r ∈ rows, isB r) : isB (join rows) := by
  intro x hx
  obtain ⟨r, hr, hx⟩ := List.mem_flatMap.1 hx
  exact isB_append (leB_isB 2 _) (isB_take (h r hr) _) x hx
theorem isB_flat {α : Type} {l : List α} {f : α → List Int} (h : ∀ x, isB (f x)) : isB (l.flatMap f) := by
  intro x hx
  obtain ⟨r, _, hx⟩ := List.mem_flatMap.1 hx
  exact h r x hx
def pbytes (ps : List Permit) : List Int := ps.flatMap fun p => leB 4 p.car ++ leB 4 p.peak
theorem pbytes_len (ps : List Permit) : (pbytes ps).length = 8 * ps.length := permits_len ps
theorem isB_pbytes (ps : List Permit) : isB (pbytes ps) := isB_flat (fun _ => isB_append (leB_isB 4 _) (leB_isB 4 _))
def jrows (l : Ledger) (sq : Int) : List (List Int) := [leB 8 sq, leB 4 l.budget ++ leB 4 l.margin, pbytes l.l]
theorem jrows_len (l : Ledger) (sq : Int) (h : l.l.length ≤ 1000) : (join (jrows l sq)).length ≤ 10000 := by
  have := pbytes_len l.l
  simp only [jrows, join, List.flatMap_cons, List.flatMap_nil, List.append_nil, List.length_append, leB_length, List.length_take]
  omega
theorem isB_jrows (l : Ledger) (sq : Int) : isB (join (jrows l sq)) := isB_join _ (by
  intro r hr
  simp only [jrows, List.mem_cons, List.not_mem_nil, or_false] at hr
  rcases hr with rfl | rfl | rfl
  · exact leB_isB 8 _
  · exact isB_append (leB_isB 4 _) (leB_isB 4 _)
  · exact isB_pbytes _)
theorem jput_ok {F : Nat → Prop} (b m c : Int) (ao : Option Addr) (cp : Nat) (ps : List Permit) (sq : Int) (n0 : Nat) (w : World) (hl_n0 : n0 = ps.length) (hn : n0 ≤ 1000) (hp : ∀ p ∈ ps, 0 ≤ p.car ∧ p.car < 4294967296 ∧ 0 ≤ p.peak ∧ p.peak < 4294967296) (hb : 0 ≤ b ∧ b < 4294967296) (hm : 0 ≤ m ∧ m < 4294967296) (hq : 0 ≤ sq ∧ sq < 18446744073709551616) (hT : Tab w) (hR : Rd F w 2 (.slice ao n0 cp) (ps.map encP)) :
    Calls Tryd.prog 15 #[.agg #[.int .i64 (b), .int .i64 (m), .int .i64 (c), .slice ao n0 cp], .int .u64 (sq)] w (Ret Non w fun v w' => ∃ (n : Nat) (ao2 : Option Addr) (c2 : Nat), v = .slice ao2 n c2 ∧ n = (jput crcOf ⟨b, m, c, ps⟩ sq).length ∧ w'.ownsRow w.heap.size 5 1 (.slice ao2 n c2) n ((jput crcOf ⟨b, m, c, ps⟩ sq).flatMap encB)) := by
  have hK := Kp.refl Non w
  subst hl_n0
  replace hR := hR.old
  have h00 := hT.1
  have hjl := jrows_len ⟨b, m, c, ps⟩ sq hn
  have hjb := isB_jrows ⟨b, m, c, ps⟩ sq
  refine calls_cw Tryd.func15 rfl (Nat.le_of_ble_eq_true rfl) ?_
  refine cw_reg rfl ?_
  refine rl (o_box (v := .agg #[.int .i64 (b), .int .i64 (m), .int .i64 (c), .slice ao ps.length cp]) rfl (fun b1 w2 hb3 hz4 hk5 hB6 => ?_)) rfl
  replace hB6 : Box w2 b1 [.int .i64 (b), .int .i64 (m), .int .i64 (c), .slice ao ps.length cp] 32 := hB6
  have hs_b1 := hK.size
  replace hK := hK.trans (Kp.ext hk5)
  replace hT := hT.ext hk5
  replace hR := hR.ext hk5
  refine rl (o_assign (v := .slice none 0 0) rfl ?_) rfl
  refine rl_nil ?_
  refine cw_reg rfl ?_
  refine rl (o_assign (v := .slice none 0 0) rfl ?_) rfl
  refine rl_nil ?_
  refine cw_seq ?_
  refine cw_reg rfl ?_
  refine rl (o_field rfl fa32_3 ?_) rfl
  refine rl (o_loadB (v := .slice ao ps.length cp) rfl hB6 tyS30 rfl ?_) rfl
  refine rl (o_len rfl Tryd.underlying30 ?_) rfl
  refine rl (o_move (v := .int .i64 (0)) rfl ?_) rfl
  refine rl_nil ?_
  refine cw_block ?_
  refine cw_loop (fun mm ρ' w' => ∃ (ρ0 : Env) (i n : Nat) (ao2 : Option Addr) (c2 : Nat), (ρ' = upds ρ0 [(1, .int .u64 (sq)), (2, .pointer (some ⟨b1, 0, none⟩)), (5, .slice ao2 n c2), (9, .slice ao ps.length cp), (10, .int .i64 (((ps.length : Nat) : Int))), (11, .int .i64 ((i : Int)))]) ∧ (mm = ps.length - i) ∧ (i ≤ ps.length) ∧ (n = (pbytes (ps.take i)).length) ∧ (Kp Non w w') ∧ (Box w' b1 [.int .i64 (b), .int .i64 (m), .int .i64 (c), .slice ao ps.length cp] 32) ∧ (Tab w') ∧ (Rd (fun b => b < w.heap.size) w' 2 (.slice ao ps.length cp) (ps.map encP)) ∧ (w'.ownsRow w.heap.size 5 1 (.slice ao2 n c2) n ((pbytes (ps.take i)).flatMap encB))) (ps.length - (0)) ?_ ?_
  · skip
    exact ⟨_, 0, 0, none, 0, upds_eq _ _ ⟨rfl, rfl, rfl, rfl, rfl, rfl, trivial⟩, rfl, Nat.zero_le _, rfl, hK, hB6, hT, hR, own_nil _ _ _ _⟩
  · rintro mm ρ1 w7 ⟨ρ0, i, n, ao2, c2, rfl, rfl, hi, hnn, hK, hB6, hT, hR, hO⟩
    refine cw_reg rfl ?_
    refine rl (o_lss rfl rfl ?_) rfl
    refine rl_nil ?_
    refine cw_seq ?_
    refine cw_if rfl (fun h8 => ?_) (fun h8 => ?_)
    · skip
      refine cw_skip ?_
      refine k_tn ?_
      refine cw_seq ?_
      refine cw_block ?_
      refine cw_reg rfl ?_
      refine rl (o_idxM (i := (i : Int)) (f := encP) (xs := ps) rfl rfl Tryd.underlying30 Tryd.sizeOf57 hR (by omega) (by omega) (fun b9 o10 x1 hx12 hF13 hA14 => ?_)) rfl
      have hxe : ps[i]? = some x1 := by simpa using hx12
      have hxp := hp x1 (List.mem_of_getElem? hxe)
      have hpl := pbytes_len (ps.take i)
      have hpt : (ps.take i).length ≤ ps.length := by simp; omega
      refine rl (o_loadA (cs := [.int .i64 (x1.car), .int .i64 (x1.peak)]) rfl tyA57 rfl hA14 ?_) rfl
      refine rl (o_alloc Tryd.zeroValue57 (fun b15 w16 hb17 hz18 hk19 hB20 => ?_)) rfl
      replace hB20 : Box w16 b15 [.int .i64 (0), .int .i64 (0)] 57 := hB20
      have hs_b15 := hK.size
      have hl_b1_b15 := hB6.lt
      replace hK := hK.trans (Kp.ext hk19)
      replace hB6 := hB6.ext hk19
      replace hT := hT.ext hk19
      replace hR := hR.ext hk19
      replace hO := own_kp hO hk19 (fun _ _ _ x => x)
      replace hA14 := At.ext hA14 hk19
      refine rl0 (o_storeA (vs := [.int .i64 (x1.car), .int .i64 (x1.peak)]) rfl rfl hB20 tyA57 rfl rfl (Nat.le_of_ble_eq_true rfl) (fun w21 hk22 hz23 hB24 => ?_)) rfl
      replace hB24 : Box w21 b15 [.int .i64 (x1.car), .int .i64 (x1.peak)] 57 := hB24
      replace hK := hK.later hk22 (fun i hi hS => by have h1 : i = b15 := hS; omega)
      replace hB6 := hB6.kp hk22 (by show ¬ b1 = b15; omega)
      replace hT := hT.kp hk22 (fun h => by have h2 : (0 : Nat) = b15 := h; omega)
      replace hR := hR.kp hk22 (fun i _ hF hS => by have h1 : i < w.heap.size := hF; have h2 : i = b15 := hS; omega)
      replace hO := own_other hO hB20 (by decide) hk22
      replace hB20 := hB24
      refine rl_nil ?_
      refine cw_region rfl ?_
      refine rl (o_move (v := .slice ao2 n c2) rfl ?_) rfl
      refine rl (o_field rfl fa57_0 ?_) rfl
      refine rl (o_loadB (v := .int .i64 (x1.car)) rfl hB20 tyS3 rfl ?_) rfl
      refine rl (o_convI (a := x1.car) rfl ⟨_, Tryd.underlying3⟩ Tryd.underlying36 (by show (0 : Int) ≤ _; omega) (by show _ ≤ (18446744073709551615 : Int); omega) ?_) rfl
      refine rl (o_field rfl fa57_1 ?_) rfl
      refine rl (o_loadB (v := .int .i64 (x1.peak)) rfl hB20 tyS3 rfl ?_) rfl
      refine rl (o_convI (a := x1.peak) rfl ⟨_, Tryd.underlying3⟩ Tryd.underlying36 (by show (0 : Int) ≤ _; omega) (by show _ ≤ (18446744073709551615 : Int); omega) ?_) rfl
      refine rl (o_buildSlice (vs := [.int .u64 (x1.car), .int .u64 (x1.peak)]) (n := 2) rfl Tryd.underlying83 elt36 rfl rfl (Nat.le_of_ble_eq_true rfl) (fun b25 w26 hb27 hz28 hk29 hB30 => ?_)) rfl
      replace hB30 : Box w26 b25 [.int .u64 (x1.car), .int .u64 (x1.peak)] 36 := hB30
      have hs_b25 := hK.size
      have hl_b1_b25 := hB6.lt
      have hl_b15_b25 := hB20.lt
      replace hK := hK.trans (Kp.ext hk29)
      replace hB6 := hB6.ext hk29
      replace hB20 := hB20.ext hk29
      replace hT := hT.ext hk29
      replace hR := hR.ext hk29
      replace hO := own_kp hO hk29 (fun _ _ _ x => x)
      refine rl (o_call (put_ok 4 _ _ [x1.car, x1.peak] _ _ rfl (by decide) (by intro q hq; simp at hq; rcases hq with rfl | rfl <;> omega) (by decide) (Rd.box (css := [[.int .u64 x1.car], [.int .u64 x1.peak]]) hB30 rfl (by simp))) Tryd.call28 (fun v31 w32 hk33 hv34 => ?_)) rfl
      have hl_b1_w32 := hB6.lt
      have hl_b15_w32 := hB20.lt
      have hl_b25_w32 := hB30.lt
      have hs_w32 := hK.size
      obtain ⟨n3, ao3, c3, rfl, hn3, hO3⟩ := hv34
      replace hK := hK.trans (Kp.ext hk33)
      replace hB6 := hB6.ext hk33
      replace hB20 := hB20.ext hk33
      replace hB30 := hB30.ext hk33
      replace hT := hT.ext hk33
      replace hR := hR.ext hk33
      replace hO := own_kp hO hk33 (fun _ _ _ x => x)
      obtain rfl : n3 = 8 := by simpa [leB_length] using hn3
      have hP := Rd.of_ownF hO3 (fun _ => rfl) hn3
      clear hO3
      refine rl (o_appendR (css := ([x1.car, x1.peak].flatMap (leB 4)).map encB) rfl rfl Tryd.underlying24 elt5 hO hP (one_map (fun _ => rfl)) (by omega) (by omega) (by have := hK.size; omega) (fun ao35 c36 w37 hk38 hO39 => ?_)) rfl
      replace hK := hK.later hk38 (fun i hi hS => by have := (own_lt hO i hS).1; omega)
      replace hB6 := hB6.grown hO (by decide) hk38
      replace hB20 := hB20.grown hO (by decide) hk38
      replace hB30 := hB30.grown hO (by decide) hk38
      replace hT := hT.kp hk38 (fun h => by have := (own_lt hO 0 h).1; omega)
      replace hR := hR.kp hk38 (fun i _ hF hS => by have h1 : i < w.heap.size := hF; have h2 := (own_lt hO i hS).1; omega)
      clear hP
      have hOn : w37.ownsRow w.heap.size 5 1 (.slice ao35 (n + 8) c36) (n + 8) ((pbytes (ps.take (i + 1))).flatMap encB) := by unfold pbytes at *; rw [flat_snoc hxe]; simpa [List.flatMap_def] using hO39
      have hO := hOn; clear hOn
      refine rl (o_assign (v := .slice ao35 (n + 8) c36) rfl ?_) rfl
      refine rl_nil ?_
      refine k_bn ?_
      refine k_tn ?_
      refine cw_region rfl ?_
      refine rl (o_add64 (a := (i : Int)) (b := 1) rfl rfl (by omega) (by omega) ?_) rfl
      refine rl (o_move (v := .int .i64 ((i : Int) + 1)) rfl ?_) rfl
      refine rl_nil ?_
      refine k_tn ?_
      refine ⟨_, ?_, _, i + 1, n + 8, _, _, upds_eq _ _ ⟨rfl, rfl, rfl, rfl, rfl, rfl, trivial⟩, rfl, by omega, (by rw [pbytes_len, List.length_take] at hnn ⊢; omega), hK, hB6, hT, hR, hO⟩
      omega
    · skip
      obtain rfl : i = ps.length := by omega
      rw [List.take_length] at hnn hO
      have hpl := pbytes_len ps
      refine cw_exit ?_
      refine k_te ?_
      refine k_te ?_
      refine k_bh ?_
      refine k_tn ?_
      have hl_b1_d1 := hB6.lt
      refine cw_norm [(1, .int .u64 (sq)), (2, .pointer (some ⟨b1, 0, none⟩)), (5, .slice ao2 n c2)] ⟨rfl, rfl, rfl, trivial⟩ (fun ρr60 => ?_)
      refine cw_drawn [.val (.int .u64 (sq)), .fact (fun v w' => ∃ (b40 : Nat), v = .slice ((some ⟨b40, 0, none⟩)) 1 1 ∧ (w7.heap.size ≤ b40) ∧ (Box w' b40 [.int .u64 (sq)] 36)), .fact (fun v w' => ∃ (ao3 : Option Addr) (c3 : Nat), v = .slice ao3 8 c3 ∧ (Rd (fun b => w.heap.size ≤ b) w' 1 (.slice ao3 8 c3) ((leB 8 sq).map encB))), .val (.pointer (some ⟨b1, 0, none⟩)), .val (.int .i64 (b)), .val (.int .u64 (b)), .val (.pointer (some ⟨b1, 1, none⟩)), .val (.int .i64 (m)), .val (.int .u64 (m)), .fact (fun v w' => ∃ (b50 : Nat), v = .slice ((some ⟨b50, 0, none⟩)) 2 2 ∧ (w7.heap.size ≤ b50) ∧ (Box w' b50 [.int .u64 (b), .int .u64 (m)] 36)), .fact (fun v w' => ∃ (ao4 : Option Addr) (c4 : Nat), v = .slice ao4 8 c4 ∧ (Rd (fun b => w.heap.size ≤ b) w' 1 (.slice ao4 8 c4) ((leB 4 b ++ leB 4 m).map encB))), .val (.slice ao2 n c2)] [[], [0], [0, 1], [], [3], [3, 4], [], [6], [6, 7], [3, 4, 5, 6, 7, 8], [0, 1, 2, 3, 4, 5, 6, 7, 8, 9], [], [0, 1, 2, 3, 4, 5, 6, 7, 8, 9, 10, 11], [0, 1, 2, 3, 4, 5, 6, 7, 8, 9, 10, 11, 12], [0, 1, 2, 3, 4, 5, 6, 7, 8, 9, 10, 11, 12, 13], [0, 1, 2, 3, 4, 5, 6, 7, 8, 9, 10, 11, 12, 13, 14]] 12 mixed (by kernel_rfl) ⟨trivial, (fun v w w' ⟨b40, hv, hge_b40, hB45⟩ hk => ⟨b40, hv, hge_b40, hB45.ext hk⟩), (fun v w w' ⟨ao3, c3, hv, hP3⟩ hk => ⟨ao3, c3, hv, hP3.ext hk⟩), trivial, trivial, trivial, trivial, trivial, trivial, (fun v w w' ⟨b50, hv, hge_b50, hB55⟩ hk => ⟨b50, hv, hge_b50, hB55.ext hk⟩), (fun v w w' ⟨ao4, c4, hv, hP4⟩ hk => ⟨ao4, c4, hv, hP4.ext hk⟩), trivial, trivial⟩ ⟨⟨⟨⟨⟨⟨⟨⟨⟨⟨⟨⟨trivial, ?_⟩, ?_⟩, ?_⟩, ?_⟩, ?_⟩, ?_⟩, ?_⟩, ?_⟩, ?_⟩, ?_⟩, ?_⟩, ?_⟩ (fun w61 vs62 hE63 hkn64 => ?_)
      · refine obl_mk rfl (fun w61k vs hE hkn => ?_)
        replace hK := hK.trans (Kp.ext hE)
        replace hB6 := hB6.ext hE
        replace hT := hT.ext hE
        replace hR := hR.ext hE
        replace hO := own_kp hO hE (fun _ _ _ x => x)
        refine obl_t rfl ?_
        refine opk_norm [(1, .int .u64 (sq))] ⟨rfl, trivial⟩ (fun ρq => ?_)
        refine o_move (v := .int .u64 (sq)) rfl ?_
        exact ⟨Kp.refl _ _, rfl⟩
      · refine obl_mk rfl (fun w61k vs hE hkn => ?_)
        replace hK := hK.trans (Kp.ext hE)
        replace hB6 := hB6.ext hE
        replace hT := hT.ext hE
        replace hR := hR.ext hE
        replace hO := own_kp hO hE (fun _ _ _ x => x)
        refine obl_t rfl ?_
        refine opk_norm [(26, .int .u64 (sq))] ⟨rfl, trivial⟩ (fun ρq => ?_)
        refine o_buildSlice (vs := [.int .u64 (sq)]) (n := 1) rfl Tryd.underlying83 elt36 rfl rfl (Nat.le_of_ble_eq_true rfl) (fun b65 w66 hb67 hz68 hk69 hB70 => ?_)
        replace hB70 : Box w66 b65 [.int .u64 (sq)] 36 := hB70
        have hs_b65 := hK.size
        have hl_b1_b65 := hB6.lt
        replace hK := hK.trans (Kp.ext hk69)
        replace hB6 := hB6.ext hk69
        replace hT := hT.ext hk69
        replace hR := hR.ext hk69
        replace hO := own_kp hO hk69 (fun _ _ _ x => x)
        exact ⟨hk69, b65, rfl, (by have := hK.size; have := hE.size; omega), hB70⟩
      · refine obl_mk rfl (fun w61k vs hE hkn => ?_)
        replace hK := hK.trans (Kp.ext hE)
        replace hB6 := hB6.ext hE
        replace hT := hT.ext hE
        replace hR := hR.ext hE
        replace hO := own_kp hO hE (fun _ _ _ x => x)
        obtain ⟨-, ⟨b40, hv1, hge_b40, hB45⟩, -⟩ := hkn
        refine obl_t rfl ?_
        refine opk_norm [(27, .slice ((some ⟨b40, 0, none⟩)) 1 1)] ⟨hv1, trivial⟩ (fun ρq => ?_)
        refine o_call (put_ok 8 _ _ [sq] _ _ rfl (by decide) (by intro q hq; simp at hq; subst hq; omega) (by decide) (Rd.box (css := [[.int .u64 sq]]) hB45 rfl (by simp))) Tryd.call28 (fun v71 w72 hk73 hv74 => ?_)
        have hl_b1_w72 := hB6.lt
        have hl_b40_w72 := hB45.lt
        have hs_w72 := hK.size
        obtain ⟨n3, ao3, c3, rfl, hn3, hO3⟩ := hv74
        replace hK := hK.trans (Kp.ext hk73)
        replace hB6 := hB6.ext hk73
        replace hB45 := hB45.ext hk73
        replace hT := hT.ext hk73
        replace hR := hR.ext hk73
        replace hO := own_kp hO hk73 (fun _ _ _ x => x)
        obtain rfl : n3 = 8 := by simpa [leB_length] using hn3
        have hP3 := (Rd.of_ownF hO3 (fun _ => rfl) hn3).mono (G := fun b => w.heap.size ≤ b) (fun b _ h => Nat.le_trans (by assumption) h)
        rw [show [sq].flatMap (leB 8) = leB 8 sq by simp] at hP3
        clear hO3
        exact ⟨hk73, ao3, c3, rfl, hP3⟩
      · refine obl_mk rfl (fun w61k vs hE hkn => ?_)
        replace hK := hK.trans (Kp.ext hE)
        replace hB6 := hB6.ext hE
        replace hT := hT.ext hE
        replace hR := hR.ext hE
        replace hO := own_kp hO hE (fun _ _ _ x => x)
        refine obl_t rfl ?_
        refine opk_norm [(2, .pointer (some ⟨b1, 0, none⟩))] ⟨rfl, trivial⟩ (fun ρq => ?_)
        refine o_field rfl fa32_0 ?_
        exact ⟨Kp.refl _ _, rfl⟩
      · refine obl_mk rfl (fun w61k vs hE hkn => ?_)
        replace hK := hK.trans (Kp.ext hE)
        replace hB6 := hB6.ext hE
        replace hT := hT.ext hE
        replace hR := hR.ext hE
        replace hO := own_kp hO hE (fun _ _ _ x => x)
        refine obl_t rfl ?_
        refine opk_norm [(29, .pointer (some ⟨b1, 0, none⟩))] ⟨rfl, trivial⟩ (fun ρq => ?_)
        refine o_loadB (v := .int .i64 (b)) rfl hB6 tyS3 rfl ?_
        exact ⟨Kp.refl _ _, rfl⟩
      · refine obl_mk rfl (fun w61k vs hE hkn => ?_)
        replace hK := hK.trans (Kp.ext hE)
        replace hB6 := hB6.ext hE
        replace hT := hT.ext hE
        replace hR := hR.ext hE
        replace hO := own_kp hO hE (fun _ _ _ x => x)
        refine obl_t rfl ?_
        refine opk_norm [(30, .int .i64 (b))] ⟨rfl, trivial⟩ (fun ρq => ?_)
        refine o_convI (a := b) rfl ⟨_, Tryd.underlying3⟩ Tryd.underlying36 (by show (0 : Int) ≤ _; omega) (by show _ ≤ (18446744073709551615 : Int); omega) ?_
        exact ⟨Kp.refl _ _, rfl⟩
      · refine obl_mk rfl (fun w61k vs hE hkn => ?_)
        replace hK := hK.trans (Kp.ext hE)
        replace hB6 := hB6.ext hE
        replace hT := hT.ext hE
        replace hR := hR.ext hE
        replace hO := own_kp hO hE (fun _ _ _ x => x)
        refine obl_t rfl ?_
        refine opk_norm [(2, .pointer (some ⟨b1, 0, none⟩))] ⟨rfl, trivial⟩ (fun ρq => ?_)
        refine o_field rfl fa32_1 ?_
        exact ⟨Kp.refl _ _, rfl⟩
      · refine obl_mk rfl (fun w61k vs hE hkn => ?_)
        replace hK := hK.trans (Kp.ext hE)
        replace hB6 := hB6.ext hE
        replace hT := hT.ext hE
        replace hR := hR.ext hE
        replace hO := own_kp hO hE (fun _ _ _ x => x)
        refine obl_t rfl ?_
        refine opk_norm [(32, .pointer (some ⟨b1, 1, none⟩))] ⟨rfl, trivial⟩ (fun ρq => ?_)
        refine o_loadB (v := .int .i64 (m)) rfl hB6 tyS3 rfl ?_
        exact ⟨Kp.refl _ _, rfl⟩
      · refine obl_mk rfl (fun w61k vs hE hkn => ?_)
        replace hK := hK.trans (Kp.ext hE)
        replace hB6 := hB6.ext hE
        replace hT := hT.ext hE
        replace hR := hR.ext hE
        replace hO := own_kp hO hE (fun _ _ _ x => x)
        refine obl_t rfl ?_
        refine opk_norm [(33, .int .i64 (m))] ⟨rfl, trivial⟩ (fun ρq => ?_)
        refine o_convI (a := m) rfl ⟨_, Tryd.underlying3⟩ Tryd.underlying36 (by show (0 : Int) ≤ _; omega) (by show _ ≤ (18446744073709551615 : Int); omega) ?_
        exact ⟨Kp.refl _ _, rfl⟩
      · refine obl_mk rfl (fun w61k vs hE hkn => ?_)
        replace hK := hK.trans (Kp.ext hE)
        replace hB6 := hB6.ext hE
        replace hT := hT.ext hE
        replace hR := hR.ext hE
        replace hO := own_kp hO hE (fun _ _ _ x => x)
        refine obl_t rfl ?_
        refine opk_norm [(31, .int .u64 (b)), (34, .int .u64 (m))] ⟨rfl, rfl, trivial⟩ (fun ρq => ?_)
        refine o_buildSlice (vs := [.int .u64 (b), .int .u64 (m)]) (n := 2) rfl Tryd.underlying83 elt36 rfl rfl (Nat.le_of_ble_eq_true rfl) (fun b75 w76 hb77 hz78 hk79 hB80 => ?_)
        replace hB80 : Box w76 b75 [.int .u64 (b), .int .u64 (m)] 36 := hB80
        have hs_b75 := hK.size
        have hl_b1_b75 := hB6.lt
        replace hK := hK.trans (Kp.ext hk79)
        replace hB6 := hB6.ext hk79
        replace hT := hT.ext hk79
        replace hR := hR.ext hk79
        replace hO := own_kp hO hk79 (fun _ _ _ x => x)
        exact ⟨hk79, b75, rfl, (by have := hK.size; have := hE.size; omega), hB80⟩
      · refine obl_mk rfl (fun w61k vs hE hkn => ?_)
        replace hK := hK.trans (Kp.ext hE)
        replace hB6 := hB6.ext hE
        replace hT := hT.ext hE
        replace hR := hR.ext hE
        replace hO := own_kp hO hE (fun _ _ _ x => x)
        obtain ⟨-, -, -, -, -, -, -, -, -, ⟨b50, hv9, hge_b50, hB55⟩, -⟩ := hkn
        refine obl_t rfl ?_
        refine opk_norm [(35, .slice ((some ⟨b50, 0, none⟩)) 2 2)] ⟨hv9, trivial⟩ (fun ρq => ?_)
        refine o_call (put_ok 4 _ _ [b, m] _ _ rfl (by decide) (by intro q hq; simp at hq; rcases hq with rfl | rfl <;> omega) (by decide) (Rd.box (css := [[.int .u64 b], [.int .u64 m]]) hB55 rfl (by simp))) Tryd.call28 (fun v81 w82 hk83 hv84 => ?_)
        have hl_b1_w82 := hB6.lt
        have hl_b50_w82 := hB55.lt
        have hs_w82 := hK.size
        obtain ⟨n4, ao4, c4, rfl, hn4, hO4⟩ := hv84
        replace hK := hK.trans (Kp.ext hk83)
        replace hB6 := hB6.ext hk83
        replace hB55 := hB55.ext hk83
        replace hT := hT.ext hk83
        replace hR := hR.ext hk83
        replace hO := own_kp hO hk83 (fun _ _ _ x => x)
        obtain rfl : n4 = 8 := by simpa [leB_length] using hn4
        have hP4 := (Rd.of_ownF hO4 (fun _ => rfl) hn4).mono (G := fun b => w.heap.size ≤ b) (fun b _ h => Nat.le_trans (by assumption) h)
        rw [show [b, m].flatMap (leB 4) = leB 4 b ++ leB 4 m by simp] at hP4
        clear hO4
        exact ⟨hk83, ao4, c4, rfl, hP4⟩
      · refine obl_mk rfl (fun w61k vs hE hkn => ?_)
        replace hK := hK.trans (Kp.ext hE)
        replace hB6 := hB6.ext hE
        replace hT := hT.ext hE
        replace hR := hR.ext hE
        replace hO := own_kp hO hE (fun _ _ _ x => x)
        refine obl_t rfl ?_
        refine opk_norm [(5, .slice ao2 n c2)] ⟨rfl, trivial⟩ (fun ρq => ?_)
        refine o_move (v := .slice ao2 n c2) rfl ?_
        exact ⟨Kp.refl _ _, rfl⟩
      replace hK := hK.trans (Kp.ext hE63)
      replace hB6 := hB6.ext hE63
      replace hT := hT.ext hE63
      replace hR := hR.ext hE63
      replace hO := own_kp hO hE63 (fun _ _ _ x => x)
      obtain ⟨-, ⟨ao4, c4, hv10, hP4⟩, -, -, -, -, -, -, -, ⟨ao3, c3, hv2, hP3⟩, -, -, -⟩ := hkn64
      refine rl_norm [(28, .slice ao3 8 c3), (36, .slice ao4 8 c4), (37, .slice ao2 n c2)] ⟨hv2, hv10, rfl, trivial⟩ (fun ρr60q => ?_)
      refine rl (o_buildSlice (vs := [.slice ao3 8 c3, .slice ao4 8 c4, .slice ao2 n c2]) (n := 3) rfl Tryd.underlying33 elt24 rfl rfl (Nat.le_of_ble_eq_true rfl) (fun b85 w86 hb87 hz88 hk89 hB90 => ?_)) rfl
      replace hB90 : Box w86 b85 [.slice ao3 8 c3, .slice ao4 8 c4, .slice ao2 n c2] 24 := hB90
      have hs_b85 := hK.size
      have hl_b1_b85 := hB6.lt
      replace hK := hK.trans (Kp.ext hk89)
      replace hB6 := hB6.ext hk89
      replace hT := hT.ext hk89
      replace hR := hR.ext hk89
      replace hO := own_kp hO hk89 (fun _ _ _ x => x)
      replace hP4 := hP4.ext hk89
      replace hP3 := hP3.ext hk89
      refine rl (o_call (join_ok _ _ [(⟨ao3, c3, leB 8 sq⟩ : Row), ⟨ao4, c4, leB 4 b ++ leB 4 m⟩, ⟨ao2, c2, pbytes ps⟩] _ _ rfl (by simp) (Nat.le_trans hjl (by decide)) (Rd.box (css := [(⟨ao3, c3, leB 8 sq⟩ : Row), ⟨ao4, c4, leB 4 b ++ leB 4 m⟩, ⟨ao2, c2, pbytes ps⟩].map encR) hB90 (by simp [encR, leB_length, hnn]) (by simp [encR])) (by intro r hr; simp at hr; rcases hr with rfl | rfl | rfl; exact hP3.mono (fun _ _ _ => trivial); exact hP4.mono (fun _ _ _ => trivial); exact hnn ▸ (Rd.of_ownF hO (fun _ => rfl) hnn).mono (fun _ _ _ => trivial))) Tryd.call30 (fun v91 w92 hk93 hv94 => ?_)) rfl
      have hl_b1_w92 := hB6.lt
      have hl_b85_w92 := hB90.lt
      have hs_w92 := hK.size
      obtain ⟨n5, ao5, c5, rfl, hn5, hO5⟩ := hv94
      replace hK := hK.trans (Kp.ext hk93)
      replace hB6 := hB6.ext hk93
      replace hB90 := hB90.ext hk93
      replace hT := hT.ext hk93
      replace hR := hR.ext hk93
      replace hO := own_kp hO hk93 (fun _ _ _ x => x)
      replace hP4 := hP4.ext hk93
      replace hP3 := hP3.ext hk93
      replace hn5 : n5 = (join (jrows ⟨b, m, c, ps⟩ sq)).length := hn5
      have hJ := (Rd.of_ownF hO5 (fun _ => rfl) hn5).mono (G := fun b => w.heap.size ≤ b) (fun b _ h => Nat.le_trans (by assumption) h)
      clear hO5
      refine rl (o_call (sealb_ok _ _ (join (jrows ⟨b, m, c, ps⟩ sq)) _ _ hn5 (by omega) hjb hT hJ) Tryd.call29 (fun v95 w96 hk97 hv98 => ?_)) rfl
      have hl_b1_w96 := hB6.lt
      have hl_b85_w96 := hB90.lt
      have hs_w96 := hK.size
      obtain ⟨n6, ao6, c6, rfl, hn6, hO6⟩ := hv98
      replace hK := hK.trans (Kp.ext hk97)
      replace hB6 := hB6.ext hk97
      replace hB90 := hB90.ext hk97
      replace hT := hT.ext hk97
      replace hR := hR.ext hk97
      replace hO := own_kp hO hk97 (fun _ _ _ x => x)
      replace hP4 := hP4.ext hk97
      replace hP3 := hP3.ext hk97
      replace hJ := hJ.ext hk97
      replace hn5 := hn5
      have hZ := own_mono (base' := w.heap.size) hO6 (by assumption)
      refine rl (o_assign (v := .slice ao6 n6 c6) rfl ?_) rfl
      refine rl_nil ?_
      refine cw_ret ?_
      refine ret_intro (v := .slice ao6 n6 c6) (res_ok (vs := [.slice ao6 n6 c6]) rfl ⟨rfl, trivial⟩) hK ?_
      exact ⟨_, _, _, rfl, hn6, hZ⟩
end Go.Proofs.YtcmlklnelipacaaDoor

import Derived.Test.YtcmlklnelipacaaDoorLed
import Derived.Test.YtcmlklnelipacaaDoorLogF
set_option linter.unusedVariables false
set_option linter.unusedSimpArgs false
set_option maxRecDepth 100000
namespace Go.Proofs.YtcmlklnelipacaaDoor
open Go.RowKit Plain
theorem elt24 : Elt Tryd.prog 24 (.slice none 0 0) 1 24 := elt_mk (by kernel_rfl) rfl (by decide)
theorem elt36 : Elt Tryd.prog 36 (.int .u64 (0)) 1 8 := elt_mk (by kernel_rfl) rfl (by decide)
theorem elt5 : Elt Tryd.prog 5 (.int .u8 (0)) 1 1 := elt_mk (by kernel_rfl) rfl (by decide)
theorem tyS24 : TyS Tryd.prog 24 := ⟨Tryd.isAgg24, Tryd.sizeOf24⟩
theorem tyS36 : TyS Tryd.prog 36 := ⟨Tryd.isAgg36, Tryd.sizeOf36⟩
theorem tyS5 : TyS Tryd.prog 5 := ⟨Tryd.isAgg5, Tryd.sizeOf5⟩
def encB (x : Int) : List Value := [.int .u8 x]
def encU (x : Int) : List Value := [.int .u64 x]
theorem one_map {α : Type} {f : α → List Value} {xs : List α} (h : ∀ x, (f x).all one = true) : ∀ cs ∈ xs.map f, ∀ u ∈ cs, one u = true := by
  intro cs hcs u hu
  obtain ⟨x, _, rfl⟩ := List.mem_map.1 hcs
  exact List.all_eq_true.1 (h x) u hu
/-- a row of bytes somewhere -/
structure Row where
  ao : Option Addr
  c : Nat
  xs : List Int
def encR (r : Row) : List Value := [.slice r.ao r.xs.length r.c]
theorem Rd.of_ownF {α : Type} {w : World} {base : Nat} {e : TypeId} {k n c : Nat} {ao : Option Addr} {xs : List α} {f : α → List Value} (ho : w.ownsRow base e k (.slice ao n c) n (xs.flatMap f)) (hk : ∀ x, (f x).length = k) (hn : n = xs.length) : Rd (fun b => base ≤ b) w k (.slice ao n c) (xs.map f) :=
  Rd.of_own1 (f := f) (g := f) (h := id) (ys := xs) ho (by simp) (fun _ => rfl) hk hn
theorem leB_get (n : Nat) : ∀ (x : Int) (i : Nat), i < n → (leB n x)[i]? = some (x / ((256 ^ i : Nat) : Int) % 256) := by
  induction n with
  | zero => intro x i hi; omega
  | succ n ih =>
    intro x i hi
    cases i with
    | zero => simp [leB]
    | succ i =>
      simp only [leB, List.getElem?_cons_succ]
      rw [ih _ i (by omega)]
      have h1 : ((256 ^ (i + 1) : Nat) : Int) = 256 * ((256 ^ i : Nat) : Int) := by rw [Nat.pow_succ, Nat.mul_comm, Int.natCast_mul]; rfl
      rw [h1, Int.ediv_ediv_of_nonneg (by decide)]
theorem pow256 (i : Nat) : ((2 ^ (8 * i) : Nat) : Int) = ((256 ^ i : Nat) : Int) := by
  rw [Nat.pow_mul]
theorem flat_len1 {α β : Type} (n : Nat) (f : α → List β) (h : ∀ x, (f x).length = n) : ∀ l : List α, (l.flatMap f).length = l.length * n := by
  intro l
  induction l with
  | nil => simp
  | cons x l ih => simp [List.flatMap_cons, ih, h, Nat.succ_mul]; omega
theorem join_snoc {rs : List Row} {i : Nat} {x : Row} (h : rs[i]? = some x) : join ((rs.take (i + 1)).map (·.xs)) = join ((rs.take i).map (·.xs)) ++ leB 2 (((min (x.xs.length : Int) 65535).toNat : Nat) : Int) ++ x.xs.take (min (x.xs.length : Int) 65535).toNat := by
  rw [take_snoc h]
  simp only [join, List.map_append, List.flatMap_append, List.map_cons, List.map_nil, List.flatMap_cons, List.flatMap_nil, List.append_nil, List.append_assoc]
  congr 1
  have e : (min (x.xs.length : Int) 65535).toNat = min 65535 x.xs.length := by omega
  rw [e]
  have e2 : x.xs.take (min 65535 x.xs.length) = x.xs.take 65535 := by
    rw [← List.take_take, List.take_length]
  rw [e2, List.length_take]
theorem join_le (rs : List Row) (i : Nat) : (join ((rs.take i).map (·.xs))).length ≤ (join (rs.map (·.xs))).length := by
  have e : rs.map (·.xs) = (rs.take i).map (·.xs) ++ (rs.drop i).map (·.xs) := by rw [← List.map_append, List.take_append_drop]
  rw [e]; simp only [join, List.flatMap_append, List.length_append]; omega
def may (x : Int) : Bool := decide (1 ≤ x) && decide (x ≤ 8)
theorem part_step {rest : List Int} {x y : Int} {k : Nat} (h0 : rest[0]? = some x) (h1 : rest[1]? = some y) (hx : 0 ≤ x) (hy : 0 ≤ y) : Plain.part (k + 1) rest = if (rest.length : Int) < 2 + x + y * 256 then none else (Plain.part k (rest.drop (2 + x + y * 256).toNat)).map ((rest.drop 2).take ((2 + x + y * 256).toNat - 2) :: ·) := by
  match rest, h0, h1 with
  | [], h0, _ => simp at h0
  | [_], _, h1 => simp at h1
  | a :: b :: r, h0, h1 =>
    simp at h0 h1
    subst h0; subst h1
    have e : (2 + a + b * 256).toNat = (a + b * 256).toNat + 2 := by omega
    rw [e]
    simp only [Plain.part, List.drop_succ_cons, List.drop_zero, Nat.add_sub_cancel, List.length_cons]
    by_cases h : (r.length : Int) < a + b * 256
    · rw [if_pos h, if_pos (by omega)]
    · rw [if_neg h, if_neg (by omega)]
theorem part_one {rest : List Int} {k : Nat} (h : rest.length = 1) : Plain.part (k + 1) rest = none := by
  match rest, h with
  | [_], _ => rfl
def errOf (o : Option (List (List Int))) : Int := if o.isSome then 0 else 10
theorem may_ok (x : Int) (w : World)  :
    Calls Tryd.prog 40 #[.int .i64 (x)] w (Ret Non w fun v w' => v = .bool (may x)) := by
  have hK := Kp.refl Non w
  refine calls_cw Tryd.func40 rfl (Nat.le_of_ble_eq_true rfl) ?_
  refine cw_reg rfl ?_
  refine rl (o_assign (v := .bool (false)) rfl ?_) rfl
  refine rl_nil ?_
  refine cw_reg rfl ?_
  refine rl (o_move (v := .int .i64 (x)) rfl ?_) rfl
  refine rl (o_geq rfl rfl ?_) rfl
  refine rl (o_move (v := .bool (decide (1 ≤ x))) rfl ?_) rfl
  by_cases h1 : 1 ≤ x
  · skip
    refine rl (o_move (v := .int .i64 (x)) rfl ?_) (want_t rfl (decide_eq_true h1))
    refine rl (o_leq rfl rfl ?_) (want_t rfl (decide_eq_true h1))
    refine rl (o_pickT (v := .bool (decide (x ≤ 8))) rfl (decide_eq_true h1) rfl ?_) rfl
    refine rl (o_assign (v := .bool (decide (x ≤ 8))) rfl ?_) rfl
    refine rl_nil ?_
    refine cw_ret ?_
    refine ret_intro (v := .bool (decide (x ≤ 8))) (res_ok (vs := [.bool (decide (x ≤ 8))]) rfl ⟨rfl, trivial⟩) hK ?_
    simp_all [may] <;> omega
  · skip
    refine rlo ?_ (want_f rfl (decide_eq_false h1) (by decide))
    refine rlo ?_ (want_f rfl (decide_eq_false h1) (by decide))
    refine rl (o_pickF (v := .bool (false)) rfl (decide_eq_false h1) rfl ?_) rfl
    refine rl (o_assign (v := .bool (false)) rfl ?_) rfl
    refine rl_nil ?_
    refine cw_ret ?_
    refine ret_intro (v := .bool (false)) (res_ok (vs := [.bool (false)]) rfl ⟨rfl, trivial⟩) hK ?_
    simp_all [may] <;> omega

theorem put_ok {F : Nat → Prop} (sz : Nat) (ao : Option Addr) (cp : Nat) (ws : List Int) (n : Nat) (w : World) (hl_n : n = ws.length) (hz : 1 ≤ sz ∧ sz ≤ 8) (hw : ∀ x ∈ ws, 0 ≤ x ∧ x < 18446744073709551616) (hn : n ≤ 1000000000) (hR : Rd F w 1 (.slice ao n cp) (ws.map encU)) :
    Calls Tryd.prog 28 #[.int .i64 ((sz : Int)), .slice ao n cp] w (Ret Non w fun v w' => ∃ (n : Nat) (ao2 : Option Addr) (c2 : Nat), v = .slice ao2 n c2 ∧ n = (ws.flatMap (leB sz)).length ∧ w'.ownsRow w.heap.size 5 1 (.slice ao2 n c2) n ((ws.flatMap (leB sz)).flatMap encB)) := by
  have hK := Kp.refl Non w
  subst hl_n
  replace hR := hR.old
  refine calls_cw Tryd.func28 rfl (Nat.le_of_ble_eq_true rfl) ?_
  refine cw_reg rfl ?_
  refine rl (o_assign (v := .slice none 0 0) rfl ?_) rfl
  refine rl_nil ?_
  refine cw_seq ?_
  refine cw_reg rfl ?_
  refine rl (o_move (v := .int .i64 ((sz : Int))) rfl ?_) rfl
  refine rl (o_call (may_ok sz _) Tryd.call40 (fun v1 w2 hk3 hv4 => ?_)) rfl
  have hs_w2 := hK.size
  obtain rfl := hv4
  replace hK := hK.trans (Kp.ext hk3)
  replace hR := hR.ext hk3
  refine rl (o_not rfl ?_) rfl
  refine rl_nil ?_
  refine cw_cond rfl (fun h5 => ?_) (fun h5 => ?_)
  · skip
    exfalso; simp_all [may]; omega -- done
  · skip
    refine cw_skip ?_
    refine k_tn ?_
    refine cw_reg rfl ?_
    refine rl (o_assign (v := .slice none 0 0) rfl ?_) rfl
    refine rl_nil ?_
    refine cw_seq ?_
    refine cw_reg rfl ?_
    refine rl (o_move (v := .slice ao ws.length cp) rfl ?_) rfl
    refine rl (o_len rfl Tryd.underlying83 ?_) rfl
    refine rl (o_move (v := .int .i64 (0)) rfl ?_) rfl
    refine rl_nil ?_
    refine cw_block ?_
    refine cw_loop (fun mm ρ' w' => ∃ (ρ0 : Env) (i n : Nat) (ao2 : Option Addr) (c2 : Nat), (ρ' = upds ρ0 [(0, .int .i64 ((sz : Int))), (5, .slice ao2 n c2), (12, .slice ao ws.length cp), (13, .int .i64 (((ws.length : Nat) : Int))), (14, .int .i64 ((i : Int)))]) ∧ (mm = ws.length - i) ∧ (i ≤ ws.length) ∧ (n ≤ 8 * i) ∧ (n = ((ws.take i).flatMap (leB sz)).length) ∧ (Kp Non w w') ∧ (Rd (fun b => b < w.heap.size) w' 1 (.slice ao ws.length cp) (ws.map encU)) ∧ (w'.ownsRow w.heap.size 5 1 (.slice ao2 n c2) n (((ws.take i).flatMap (leB sz)).flatMap encB))) (ws.length - (0)) ?_ ?_
    · skip
      exact ⟨_, 0, 0, none, 0, upds_eq _ _ ⟨rfl, rfl, rfl, rfl, rfl, trivial⟩, rfl, Nat.zero_le _, by omega, rfl, hK, hR, own_nil _ _ _ _⟩
    · rintro mm ρ1 w6 ⟨ρ0, i, n, ao2, c2, rfl, rfl, hi, hn8, hn1, hK, hR, hO⟩
      refine cw_reg rfl ?_
      refine rl (o_lss rfl rfl ?_) rfl
      refine rl_nil ?_
      refine cw_seq ?_
      refine cw_if rfl (fun h7 => ?_) (fun h7 => ?_)
      · skip
        refine cw_skip ?_
        refine k_tn ?_
        refine cw_seq ?_
        refine cw_block ?_
        refine cw_reg rfl ?_
        refine rl (o_idxM (i := (i : Int)) (f := encU) (xs := ws) rfl rfl Tryd.underlying83 Tryd.sizeOf36 hR (by omega) (by omega) (fun b8 o9 x1 hx11 hF12 hA13 => ?_)) rfl
        have hxe : ws[i]? = some x1 := by simpa using hx11
        have hxw := hw _ (List.mem_of_getElem? hxe)
        refine rl (o_load (v := .int .u64 (x1)) rfl tyS36 (hA13 0 _ rfl) ?_) rfl
        refine rl (o_assign (v := .int .u64 (x1)) rfl ?_) rfl
        refine rl_nil ?_
        refine cw_reg rfl ?_
        refine rl (o_move (v := .int .i64 ((sz : Int))) rfl ?_) rfl
        refine rl (o_move (v := .int .i64 (0)) rfl ?_) rfl
        refine rl_nil ?_
        refine cw_block ?_
        refine cw_loop (fun mm ρ' w' => ∃ (ρ0 : Env) (j n2 : Nat) (ao3 : Option Addr) (c3 : Nat), (ρ' = upds ρ0 [(0, .int .i64 ((sz : Int))), (5, .slice ao3 n2 c3), (7, .int .u64 (x1)), (12, .slice ao ws.length cp), (13, .int .i64 (((ws.length : Nat) : Int))), (14, .int .i64 ((i : Int))), (18, .int .i64 ((sz : Int))), (19, .int .i64 ((j : Int)))]) ∧ (mm = sz - j) ∧ (j ≤ sz) ∧ (n2 ≤ 8 * i + j) ∧ (n2 = ((ws.take i).flatMap (leB sz) ++ (leB sz x1).take j).length) ∧ (Kp Non w w') ∧ (Rd (fun b => b < w.heap.size) w' 1 (.slice ao ws.length cp) (ws.map encU)) ∧ (w'.ownsRow w.heap.size 5 1 (.slice ao3 n2 c3) n2 (((ws.take i).flatMap (leB sz) ++ (leB sz x1).take j).flatMap encB))) (sz - (0)) ?_ ?_
        · skip
          exact ⟨_, 0, n, _, _, upds_eq _ _ ⟨rfl, rfl, rfl, rfl, rfl, rfl, rfl, rfl, trivial⟩, rfl, Nat.zero_le _, by omega, by simpa using hn1, hK, hR, (by simpa using hO)⟩
        · rintro mm ρ1 w14 ⟨ρ0, j, n2, ao3, c3, rfl, rfl, hj, hn9, hn2, hK, hR, hO2⟩
          refine cw_reg rfl ?_
          refine rl (o_lss rfl rfl ?_) rfl
          refine rl_nil ?_
          refine cw_seq ?_
          refine cw_if rfl (fun h15 => ?_) (fun h15 => ?_)
          · skip
            refine cw_skip ?_
            refine k_tn ?_
            refine cw_seq ?_
            refine cw_block ?_
            refine cw_reg rfl ?_
            refine rl (o_move (v := .int .i64 ((j : Int))) rfl ?_) rfl
            refine rl (o_assign (v := .int .i64 ((j : Int))) rfl ?_) rfl
            refine rl_nil ?_
            refine cw_region rfl ?_
            refine rl (o_move (v := .slice ao3 n2 c3) rfl ?_) rfl
            refine rl (o_move (v := .int .u64 (x1)) rfl ?_) rfl
            refine rl (o_move (v := .int .i64 ((j : Int))) rfl ?_) rfl
            refine rl (o_mul64 (a := 8) (b := (j : Int)) rfl rfl (by omega) (by omega) ?_) rfl
            refine rl (o_shr (8 * j) ((256 ^ j : Nat) : Int) rfl rfl (by omega) (by show 8 * j ≤ 64; omega) (pow256 j).symm ?_) rfl
            refine rl (o_convB rfl ⟨_, Tryd.underlying36⟩ Tryd.underlying5 ?_) rfl
            refine rl (o_buildSlice (vs := [.int .u8 (x1 / ((256 ^ j : Nat) : Int) % 256)]) (n := 1) rfl Tryd.underlying24 elt5 rfl rfl (Nat.le_of_ble_eq_true rfl) (fun b16 w17 hb18 hz19 hk20 hB21 => ?_)) rfl
            replace hB21 : Box w17 b16 [.int .u8 (x1 / ((256 ^ j : Nat) : Int) % 256)] 5 := hB21
            have hs_b16 := hK.size
            replace hK := hK.trans (Kp.ext hk20)
            replace hR := hR.ext hk20
            replace hO2 := own_kp hO2 hk20 (fun _ _ _ x => x)
            refine rl (o_append (news := [.int .u8 (x1 / ((256 ^ j : Nat) : Int) % 256)]) rfl rfl Tryd.underlying24 elt5 hO2 (hB21.at_ 0 1) rfl (by simp [one]) (by omega) (by omega) (by have := hK.size; omega) (fun ao22 c23 w24 hk25 hO26 => ?_)) rfl
            replace hK := hK.later hk25 (fun i hi hS => by have := (own_lt hO2 i hS).1; omega)
            clear hB21
            replace hR := hR.kp hk25 (fun i _ hF hS => by have h1 : i < w.heap.size := hF; have h2 := (own_lt hO2 i hS).1; omega)
            have hO2n : w24.ownsRow w.heap.size 5 1 (.slice ao22 (n2 + 1) c23) (n2 + 1) (((ws.take i).flatMap (leB sz) ++ (leB sz x1).take (j + 1)).flatMap encB) := by rw [take_snoc (leB_get sz x1 j (by omega))]; simpa [encB, List.append_assoc] using hO26
            have hO2 := hO2n; clear hO2n
            refine rl (o_assign (v := .slice ao22 (n2 + 1) c23) rfl ?_) rfl
            refine rl_nil ?_
            refine k_bn ?_
            refine k_tn ?_
            refine cw_region rfl ?_
            refine rl (o_add64 (a := (j : Int)) (b := 1) rfl rfl (by omega) (by omega) ?_) rfl
            refine rl (o_move (v := .int .i64 ((j : Int) + 1)) rfl ?_) rfl
            refine rl_nil ?_
            refine k_tn ?_
            refine ⟨_, ?_, _, j + 1, n2 + 1, _, _, upds_eq _ _ ⟨rfl, rfl, rfl, rfl, rfl, rfl, rfl, rfl, trivial⟩, rfl, by omega, by omega, (by rw [hn2, take_snoc (leB_get sz x1 j (by omega))]; simp; omega), hK, hR, hO2⟩
            omega
          · skip
            refine cw_exit ?_
            refine k_te ?_
            refine k_te ?_
            refine k_bh ?_
            refine k_bn ?_
            refine k_tn ?_
            refine cw_region rfl ?_
            refine rl (o_add64 (a := (i : Int)) (b := 1) rfl rfl (by omega) (by omega) ?_) rfl
            refine rl (o_move (v := .int .i64 ((i : Int) + 1)) rfl ?_) rfl
            refine rl_nil ?_
            refine k_tn ?_
            refine ⟨_, ?_, _, i + 1, n2, _, _, upds_eq _ _ ⟨rfl, rfl, rfl, rfl, rfl, trivial⟩, rfl, by omega, by omega, (by rw [hn2, flat_snoc hxe, List.take_of_length_le (l := leB sz x1) (i := j) (by rw [leB_length]; omega)]), hK, hR, (by rw [flat_snoc hxe]; rw [List.take_of_length_le (l := leB sz x1) (i := j) (by rw [leB_length]; omega)] at hO2; exact hO2)⟩
            omega
      · skip
        refine cw_exit ?_
        refine k_te ?_
        refine k_te ?_
        refine k_bh ?_
        refine k_tn ?_
        refine cw_reg rfl ?_
        refine rl (o_move (v := .slice ao2 n c2) rfl ?_) rfl
        refine rl (o_assign (v := .slice ao2 n c2) rfl ?_) rfl
        refine rl_nil ?_
        refine cw_ret ?_
        refine ret_intro (v := .slice ao2 n c2) (res_ok (vs := [.slice ao2 n c2]) rfl ⟨rfl, trivial⟩) hK ?_
        exact ⟨_, _, _, rfl, by rw [hn1, show i = ws.length by omega, List.take_length], by rw [show i = ws.length by omega, List.take_length] at hO; exact hO⟩

theorem clone_ok {F : Nat → Prop} (ao : Option Addr) (cp : Nat) (xs : List Int) (n : Nat) (w : World) (hl_n : n = xs.length) (hn : n ≤ 1000000000) (hR : Rd F w 1 (.slice ao n cp) (xs.map encB)) :
    Calls Tryd.prog 22 #[.slice ao n cp] w (Ret Non w fun v w' => ∃ (n : Nat) (ao2 : Option Addr) (c2 : Nat), v = .slice ao2 n c2 ∧ n = (xs).length ∧ w'.ownsRow w.heap.size 5 1 (.slice ao2 n c2) n ((xs).flatMap encB)) := by
  have hK := Kp.refl Non w
  subst hl_n
  replace hR := hR.old
  refine calls_cw Tryd.func22 rfl (Nat.le_of_ble_eq_true rfl) ?_
  refine cw_reg rfl ?_
  refine rl (o_assign (v := .slice none 0 0) rfl ?_) rfl
  refine rl_nil ?_
  refine cw_seq ?_
  refine cw_reg rfl ?_
  refine rl (o_move (v := .slice ao xs.length cp) rfl ?_) rfl
  refine rl (o_nilEq rfl Tryd.underlying24 ?_) rfl
  refine rl_nil ?_
  refine cw_cond rfl (fun h1 => ?_) (fun h1 => ?_)
  · skip
    refine cw_reg rfl ?_
    refine rl (o_assign (v := .slice none 0 0) rfl ?_) rfl
    refine rl_nil ?_
    refine cw_ret ?_
    refine k_tr ?_
    refine ret_intro (v := .slice none 0 0) (res_ok (vs := [.slice none 0 0]) rfl ⟨rfl, trivial⟩) hK ?_
    obtain rfl : xs = [] := by
      obtain ⟨a0, c0, he, _, _, hne⟩ := hR
      by_cases hx : xs = []
      · exact hx
      · obtain ⟨b, o, ha, _⟩ := hne (by simpa using hx)
        injection he with e1 e2 e3; subst e1; subst ha; simp at h1
    exact ⟨0, none, 0, rfl, rfl, own_nil _ _ _ _⟩
  · skip
    refine cw_skip ?_
    refine k_tn ?_
    refine cw_reg rfl ?_
    refine rl (o_buildSlice (vs := []) (n := 0) rfl Tryd.underlying24 elt5 rfl rfl (Nat.le_of_ble_eq_true rfl) (fun b2 w3 hb4 hz5 hk6 hB7 => ?_)) rfl
    replace hB7 : Box w3 b2 [] 5 := hB7
    have hs_b2 := hK.size
    replace hK := hK.trans (Kp.ext hk6)
    replace hR := hR.ext hk6
    refine rl (o_move (v := .slice ao xs.length cp) rfl ?_) rfl
    have hO0 := (own_new hB7 (by have := hK.size; omega) rfl (by decide) : w3.ownsRow w.heap.size 5 1 (.slice ((some ⟨b2, 0, none⟩)) 0 0) 0 [])
    refine rl (o_appendR (css := xs.map encB) rfl rfl Tryd.underlying24 elt5 hO0 hR (one_map (fun _ => rfl)) (by omega) (by omega) (by have := hK.size; omega) (fun ao8 c9 w10 hk11 hO12 => ?_)) rfl
    replace hK := hK.later hk11 (fun i hi hS => by have := (own_lt hO0 i hS).1; omega)
    clear hB7
    replace hR := hR.kp hk11 (fun i _ hF hS => by have h1 : i < w.heap.size := hF; have h2 := (own_lt hO0 i hS).1; omega)
    have hOn : w10.ownsRow w.heap.size 5 1 (.slice ao8 (0 + xs.length) c9) (0 + xs.length) (xs.flatMap encB) := by simpa [List.flatMap_def] using hO12
    have hO := hOn; clear hOn
    refine rl (o_assign (v := .slice ao8 (0 + xs.length) c9) rfl ?_) rfl
    refine rl_nil ?_
    refine cw_ret ?_
    refine ret_intro (v := .slice ao8 (0 + xs.length) c9) (res_ok (vs := [.slice ao8 (0 + xs.length) c9]) rfl ⟨rfl, trivial⟩) hK ?_
    exact ⟨_, _, _, rfl, by simp, hO⟩

theorem equal_ok {F G : Nat → Prop} (ao ao2 : Option Addr) (cp cp2 : Nat) (xs ys : List Int) (n : Nat) (m : Nat) (w : World) (hl_m : m = ys.length) (hl_n : n = xs.length) (hn : n ≤ 1000000000) (hm : m ≤ 1000000000) (hR : Rd F w 1 (.slice ao n cp) (xs.map encB)) (hS : Rd G w 1 (.slice ao2 m cp2) (ys.map encB)) :
    Calls Tryd.prog 44 #[.slice ao n cp, .slice ao2 m cp2] w (Ret Non w fun v w' => v = .bool (decide (xs = ys))) := by
  have hK := Kp.refl Non w
  subst hl_n
  subst hl_m
  replace hR := hR.old
  replace hS := hS.old
  refine calls_cw Tryd.func44 rfl (Nat.le_of_ble_eq_true rfl) ?_
  refine cw_reg rfl ?_
  refine rl (o_assign (v := .bool (false)) rfl ?_) rfl
  refine rl_nil ?_
  refine cw_seq ?_
  refine cw_reg rfl ?_
  refine rl (o_move (v := .slice ao xs.length cp) rfl ?_) rfl
  refine rl (o_len rfl Tryd.underlying24 ?_) rfl
  refine rl (o_move (v := .slice ao2 ys.length cp2) rfl ?_) rfl
  refine rl (o_len rfl Tryd.underlying24 ?_) rfl
  refine rl (o_neq rfl rfl ?_) rfl
  refine rl_nil ?_
  refine cw_if rfl (fun h1 => ?_) (fun h1 => ?_)
  · skip
    refine cw_reg rfl ?_
    refine rl (o_assign (v := .bool (false)) rfl ?_) rfl
    refine rl_nil ?_
    refine cw_ret ?_
    refine k_tr ?_
    refine ret_intro (v := .bool (false)) (res_ok (vs := [.bool (false)]) rfl ⟨rfl, trivial⟩) hK ?_
    have : xs ≠ ys := fun h => by subst h; omega
    simp [this]
  · skip
    refine cw_skip ?_
    refine k_tn ?_
    refine cw_seq ?_
    refine cw_reg rfl ?_
    refine rl (o_move (v := .slice ao xs.length cp) rfl ?_) rfl
    refine rl (o_len rfl Tryd.underlying24 ?_) rfl
    refine rl (o_move (v := .int .i64 (0)) rfl ?_) rfl
    refine rl_nil ?_
    refine cw_block ?_
    refine cw_loop (fun mm ρ' w' => ∃ (ρ0 : Env) (i : Nat), (ρ' = upds ρ0 [(0, .slice ao xs.length cp), (1, .slice ao2 ys.length cp2), (12, .int .i64 (((xs.length : Nat) : Int))), (13, .int .i64 ((i : Int)))]) ∧ (mm = xs.length - i) ∧ (i ≤ xs.length) ∧ (xs.take i = ys.take i) ∧ (Kp Non w w') ∧ (Rd (fun b => b < w.heap.size) w' 1 (.slice ao xs.length cp) (xs.map encB)) ∧ (Rd (fun b => b < w.heap.size) w' 1 (.slice ao2 ys.length cp2) (ys.map encB))) (xs.length - (0)) ?_ ?_
    · skip
      exact ⟨_, 0, upds_eq _ _ ⟨rfl, rfl, rfl, rfl, trivial⟩, rfl, Nat.zero_le _, rfl, hK, hR, hS⟩
    · rintro mm ρ1 w2 ⟨ρ0, i, rfl, rfl, hi, ht, hK, hR, hS⟩
      refine cw_reg rfl ?_
      refine rl (o_lss rfl rfl ?_) rfl
      refine rl_nil ?_
      refine cw_seq ?_
      refine cw_if rfl (fun h3 => ?_) (fun h3 => ?_)
      · skip
        obtain ⟨b1, o1, x1, hao1, hxe, hA1⟩ := Rd.get hR i (by omega)
        obtain ⟨b2, o2, y1, hao2, hye, hA2⟩ := Rd.get hS i (by omega)
        refine cw_skip ?_
        refine k_tn ?_
        refine cw_seq ?_
        refine cw_block ?_
        refine cw_reg rfl ?_
        refine rl (o_move (v := .int .i64 ((i : Int))) rfl ?_) rfl
        refine rl (o_assign (v := .int .i64 ((i : Int))) rfl ?_) rfl
        refine rl_nil ?_
        refine cw_norm [(0, .slice ao xs.length cp), (1, .slice ao2 ys.length cp2), (5, .int .i64 ((i : Int))), (12, .int .i64 (((xs.length : Nat) : Int))), (13, .int .i64 ((i : Int)))] ⟨rfl, rfl, rfl, rfl, rfl, trivial⟩ (fun ρr16 => ?_)
        refine cw_drawn [.val (.slice ao xs.length cp), .val (.int .i64 ((i : Int))), .val (.pointer (some ⟨b1, o1 + i * 1, none⟩)), .val (.int .u8 (x1)), .val (.slice ao2 ys.length cp2), .val (.int .i64 ((i : Int))), .val (.pointer (some ⟨b2, o2 + i * 1, none⟩)), .val (.int .u8 (y1))] [[], [], [0, 1], [0, 1, 2], [], [], [4, 5], [4, 5, 6], [0, 1, 2, 3, 4, 5, 6, 7]] 8 mixed (by kernel_rfl) ⟨trivial, trivial, trivial, trivial, trivial, trivial, trivial, trivial, trivial⟩ ⟨⟨⟨⟨⟨⟨⟨⟨trivial, ?_⟩, ?_⟩, ?_⟩, ?_⟩, ?_⟩, ?_⟩, ?_⟩, ?_⟩ (fun w17 vs18 hE19 hkn20 => ?_)
        · refine obl_mk rfl (fun w17k vs hE hkn => ?_)
          replace hK := hK.trans (Kp.ext hE)
          replace hR := hR.ext hE
          replace hS := hS.ext hE
          replace hA1 := At.ext hA1 hE
          replace hA2 := At.ext hA2 hE
          refine obl_t rfl ?_
          refine opk_norm [(0, .slice ao xs.length cp)] ⟨rfl, trivial⟩ (fun ρq => ?_)
          refine o_move (v := .slice ao xs.length cp) rfl ?_
          exact ⟨Kp.refl _ _, rfl⟩
        · refine obl_mk rfl (fun w17k vs hE hkn => ?_)
          replace hK := hK.trans (Kp.ext hE)
          replace hR := hR.ext hE
          replace hS := hS.ext hE
          replace hA1 := At.ext hA1 hE
          replace hA2 := At.ext hA2 hE
          refine obl_t rfl ?_
          refine opk_norm [(5, .int .i64 ((i : Int)))] ⟨rfl, trivial⟩ (fun ρq => ?_)
          refine o_move (v := .int .i64 ((i : Int))) rfl ?_
          exact ⟨Kp.refl _ _, rfl⟩
        · refine obl_mk rfl (fun w17k vs hE hkn => ?_)
          replace hK := hK.trans (Kp.ext hE)
          replace hR := hR.ext hE
          replace hS := hS.ext hE
          replace hA1 := At.ext hA1 hE
          replace hA2 := At.ext hA2 hE
          refine obl_t rfl ?_
          refine opk_norm [(16, .slice ao xs.length cp), (17, .int .i64 ((i : Int)))] ⟨rfl, rfl, trivial⟩ (fun ρq => ?_)
          refine o_idxAt i rfl rfl Tryd.underlying24 Tryd.sizeOf5 hao1 (by omega) (by omega) ?_
          exact ⟨Kp.refl _ _, rfl⟩
        · refine obl_mk rfl (fun w17k vs hE hkn => ?_)
          replace hK := hK.trans (Kp.ext hE)
          replace hR := hR.ext hE
          replace hS := hS.ext hE
          replace hA1 := At.ext hA1 hE
          replace hA2 := At.ext hA2 hE
          refine obl_t rfl ?_
          refine opk_norm [(18, .pointer (some ⟨b1, o1 + i * 1, none⟩))] ⟨rfl, trivial⟩ (fun ρq => ?_)
          refine o_load (v := .int .u8 (x1)) rfl tyS5 (hA1 0 _ rfl) ?_
          exact ⟨Kp.refl _ _, rfl⟩
        · refine obl_mk rfl (fun w17k vs hE hkn => ?_)
          replace hK := hK.trans (Kp.ext hE)
          replace hR := hR.ext hE
          replace hS := hS.ext hE
          replace hA1 := At.ext hA1 hE
          replace hA2 := At.ext hA2 hE
          refine obl_t rfl ?_
          refine opk_norm [(1, .slice ao2 ys.length cp2)] ⟨rfl, trivial⟩ (fun ρq => ?_)
          refine o_move (v := .slice ao2 ys.length cp2) rfl ?_
          exact ⟨Kp.refl _ _, rfl⟩
        · refine obl_mk rfl (fun w17k vs hE hkn => ?_)
          replace hK := hK.trans (Kp.ext hE)
          replace hR := hR.ext hE
          replace hS := hS.ext hE
          replace hA1 := At.ext hA1 hE
          replace hA2 := At.ext hA2 hE
          refine obl_t rfl ?_
          refine opk_norm [(5, .int .i64 ((i : Int)))] ⟨rfl, trivial⟩ (fun ρq => ?_)
          refine o_move (v := .int .i64 ((i : Int))) rfl ?_
          exact ⟨Kp.refl _ _, rfl⟩
        · refine obl_mk rfl (fun w17k vs hE hkn => ?_)
          replace hK := hK.trans (Kp.ext hE)
          replace hR := hR.ext hE
          replace hS := hS.ext hE
          replace hA1 := At.ext hA1 hE
          replace hA2 := At.ext hA2 hE
          refine obl_t rfl ?_
          refine opk_norm [(20, .slice ao2 ys.length cp2), (21, .int .i64 ((i : Int)))] ⟨rfl, rfl, trivial⟩ (fun ρq => ?_)
          refine o_idxAt i rfl rfl Tryd.underlying24 Tryd.sizeOf5 hao2 (by omega) (by omega) ?_
          exact ⟨Kp.refl _ _, rfl⟩
        · refine obl_mk rfl (fun w17k vs hE hkn => ?_)
          replace hK := hK.trans (Kp.ext hE)
          replace hR := hR.ext hE
          replace hS := hS.ext hE
          replace hA1 := At.ext hA1 hE
          replace hA2 := At.ext hA2 hE
          refine obl_t rfl ?_
          refine opk_norm [(22, .pointer (some ⟨b2, o2 + i * 1, none⟩))] ⟨rfl, trivial⟩ (fun ρq => ?_)
          refine o_load (v := .int .u8 (y1)) rfl tyS5 (hA2 0 _ rfl) ?_
          exact ⟨Kp.refl _ _, rfl⟩
        replace hK := hK.trans (Kp.ext hE19)
        replace hR := hR.ext hE19
        replace hS := hS.ext hE19
        replace hA1 := At.ext hA1 hE19
        replace hA2 := At.ext hA2 hE19
        refine rl_norm [(0, .slice ao xs.length cp), (1, .slice ao2 ys.length cp2), (12, .int .i64 (((xs.length : Nat) : Int))), (13, .int .i64 ((i : Int))), (19, .int .u8 (x1)), (23, .int .u8 (y1))] ⟨rfl, rfl, rfl, rfl, rfl, rfl, trivial⟩ (fun ρr16q => ?_)
        refine rl (o_neq rfl rfl ?_) rfl
        refine rl_nil ?_
        refine cw_if rfl (fun h33 => ?_) (fun h33 => ?_)
        · skip
          refine cw_reg rfl ?_
          refine rl (o_assign (v := .bool (false)) rfl ?_) rfl
          refine rl_nil ?_
          refine cw_ret ?_
          refine k_br ?_
          refine k_tr ?_
          refine k_tr ?_
          refine k_br ?_
          refine k_tr ?_
          refine ret_intro (v := .bool (false)) (res_ok (vs := [.bool (false)]) rfl ⟨rfl, trivial⟩) hK ?_
          have : xs ≠ ys := fun h => by subst h; simp_all
          simp [this]
        · skip
          refine cw_skip ?_
          refine k_bn ?_
          refine k_tn ?_
          refine cw_region rfl ?_
          refine rl (o_add64 (a := (i : Int)) (b := 1) rfl rfl (by omega) (by omega) ?_) rfl
          refine rl (o_move (v := .int .i64 ((i : Int) + 1)) rfl ?_) rfl
          refine rl_nil ?_
          refine k_tn ?_
          refine ⟨_, ?_, _, i + 1, upds_eq _ _ ⟨rfl, rfl, rfl, rfl, trivial⟩, rfl, by omega, (by rw [take_snoc hxe, take_snoc hye, ht]; simp_all), hK, hR, hS⟩
          omega
      · skip
        refine cw_exit ?_
        refine k_te ?_
        refine k_te ?_
        refine k_bh ?_
        refine k_tn ?_
        refine cw_reg rfl ?_
        refine rl (o_assign (v := .bool (true)) rfl ?_) rfl
        refine rl_nil ?_
        refine cw_ret ?_
        refine ret_intro (v := .bool (true)) (res_ok (vs := [.bool (true)]) rfl ⟨rfl, trivial⟩) hK ?_
        have : xs = ys := by rw [show i = xs.length by omega, List.take_length] at ht; rw [ht]; exact List.take_of_length_le (by omega)
        simp [this]

theorem join_ok {F : Nat → Prop} (ao : Option Addr) (cp : Nat) (rs : List Row) (n0 : Nat) (w : World) (hl_n0 : n0 = rs.length) (hn : n0 ≤ 1000000000) (htot : (join (rs.map (·.xs))).length ≤ 1000000000000) (hR : Rd F w 1 (.slice ao n0 cp) (rs.map encR)) (hRs : ∀ r ∈ rs, Rd (F) w 1 (.slice r.ao r.xs.length r.c) (r.xs.map encB)) :
    Calls Tryd.prog 30 #[.slice ao n0 cp] w (Ret Non w fun v w' => ∃ (n : Nat) (ao2 : Option Addr) (c2 : Nat), v = .slice ao2 n c2 ∧ n = (join (rs.map (·.xs))).length ∧ w'.ownsRow w.heap.size 5 1 (.slice ao2 n c2) n ((join (rs.map (·.xs))).flatMap encB)) := by
  have hK := Kp.refl Non w
  subst hl_n0
  replace hR := hR.old
  replace hRs := fun r hr => (hRs r hr).old
  refine calls_cw Tryd.func30 rfl (Nat.le_of_ble_eq_true rfl) ?_
  refine cw_reg rfl ?_
  refine rl (o_assign (v := .slice none 0 0) rfl ?_) rfl
  refine rl_nil ?_
  refine cw_reg rfl ?_
  refine rl (o_assign (v := .slice none 0 0) rfl ?_) rfl
  refine rl_nil ?_
  refine cw_seq ?_
  refine cw_reg rfl ?_
  refine rl (o_move (v := .slice ao rs.length cp) rfl ?_) rfl
  refine rl (o_len rfl Tryd.underlying33 ?_) rfl
  refine rl (o_move (v := .int .i64 (0)) rfl ?_) rfl
  refine rl_nil ?_
  refine cw_block ?_
  refine cw_loop (fun mm ρ' w' => ∃ (ρ0 : Env) (i n : Nat) (ao2 : Option Addr) (c2 : Nat), (ρ' = upds ρ0 [(3, .slice ao2 n c2), (6, .slice ao rs.length cp), (7, .int .i64 (((rs.length : Nat) : Int))), (8, .int .i64 ((i : Int)))]) ∧ (mm = rs.length - i) ∧ (i ≤ rs.length) ∧ (n = (join ((rs.take i).map (·.xs))).length) ∧ (Kp Non w w') ∧ (Rd (fun b => b < w.heap.size) w' 1 (.slice ao rs.length cp) (rs.map encR)) ∧ (∀ r ∈ rs, Rd (fun b => b < w.heap.size) w' 1 (.slice r.ao r.xs.length r.c) (r.xs.map encB)) ∧ (w'.ownsRow w.heap.size 5 1 (.slice ao2 n c2) n ((join ((rs.take i).map (·.xs))).flatMap encB))) (rs.length - (0)) ?_ ?_
  · skip
    exact ⟨_, 0, 0, none, 0, upds_eq _ _ ⟨rfl, rfl, rfl, rfl, trivial⟩, rfl, Nat.zero_le _, rfl, hK, hR, hRs, own_nil _ _ _ _⟩
  · rintro mm ρ1 w1 ⟨ρ0, i, n, ao2, c2, rfl, rfl, hi, hnn, hK, hR, hRs, hO⟩
    refine cw_reg rfl ?_
    refine rl (o_lss rfl rfl ?_) rfl
    refine rl_nil ?_
    refine cw_seq ?_
    refine cw_if rfl (fun h2 => ?_) (fun h2 => ?_)
    · skip
      refine cw_skip ?_
      refine k_tn ?_
      refine cw_seq ?_
      refine cw_block ?_
      refine cw_reg rfl ?_
      refine rl (o_idxM (i := (i : Int)) (f := encR) (xs := rs) rfl rfl Tryd.underlying33 Tryd.sizeOf24 hR (by omega) (by omega) (fun b3 o4 x1 hx6 hF7 hA8 => ?_)) rfl
      have hxe : rs[i]? = some x1 := by simpa using hx6
      have hRx := hRs x1 (List.mem_of_getElem? hxe)
      have hjb := join_le rs i
      refine rl (o_load (v := .slice x1.ao x1.xs.length x1.c) rfl tyS24 (hA8 0 _ rfl) ?_) rfl
      refine rl (o_assign (v := .slice x1.ao x1.xs.length x1.c) rfl ?_) rfl
      refine rl_nil ?_
      refine cw_reg rfl ?_
      refine rl (o_move (v := .slice x1.ao x1.xs.length x1.c) rfl ?_) rfl
      refine rl (o_move (v := .slice x1.ao x1.xs.length x1.c) rfl ?_) rfl
      refine rl (o_len rfl Tryd.underlying24 ?_) rfl
      refine rl (o_min rfl rfl ?_) rfl
      refine rl (o_sliceTo (i := min ((x1.xs.length : Nat) : Int) 65535) rfl rfl Tryd.underlying24 Tryd.sizeOf5 hRx (by omega) (by simp only [List.length_map]; omega) (fun aoy cy hRy => ?_)) rfl
      replace hRy : Rd (fun b => b < w.heap.size) w1 1 (.slice aoy ((min ((x1.xs.length : Nat) : Int) 65535).toNat) cy) ((x1.xs.take (min ((x1.xs.length : Nat) : Int) 65535).toNat).map encB) := by first | exact hRy | (simp only [← List.map_drop, ← List.map_take] at hRy; exact hRy)
      refine rl (o_assign (v := .slice aoy ((min ((x1.xs.length : Nat) : Int) 65535).toNat) cy) rfl ?_) rfl
      refine rl_nil ?_
      refine cw_reg rfl ?_
      refine rl (o_move (v := .slice ao2 n c2) rfl ?_) rfl
      refine rl (o_move (v := .slice aoy ((min ((x1.xs.length : Nat) : Int) 65535).toNat) cy) rfl ?_) rfl
      refine rl (o_len rfl Tryd.underlying24 ?_) rfl
      refine rl (o_convI (a := (((min ((x1.xs.length : Nat) : Int) 65535).toNat : Nat) : Int)) rfl ⟨_, Tryd.underlying3⟩ Tryd.underlying36 (by show (0 : Int) ≤ _; omega) (by show _ ≤ (18446744073709551615 : Int); omega) ?_) rfl
      refine rl (o_buildSlice (vs := [.int .u64 ((((min ((x1.xs.length : Nat) : Int) 65535).toNat : Nat) : Int))]) (n := 1) rfl Tryd.underlying83 elt36 rfl rfl (Nat.le_of_ble_eq_true rfl) (fun b9 w10 hb11 hz12 hk13 hB14 => ?_)) rfl
      replace hB14 : Box w10 b9 [.int .u64 ((((min ((x1.xs.length : Nat) : Int) 65535).toNat : Nat) : Int))] 36 := hB14
      have hs_b9 := hK.size
      replace hK := hK.trans (Kp.ext hk13)
      replace hR := hR.ext hk13
      replace hRs := fun r hr => (hRs r hr).ext hk13
      replace hO := own_kp hO hk13 (fun _ _ _ x => x)
      replace hRx := hRx.ext hk13
      replace hRy := hRy.ext hk13
      replace hA8 := At.ext hA8 hk13
      refine rl (o_call (put_ok 2 _ _ [(((min ((x1.xs.length : Nat) : Int) 65535).toNat : Nat) : Int)] _ _ rfl (by decide) (by intro q hq; simp at hq; subst hq; omega) (by decide) (Rd.box (css := [[.int .u64 ((((min ((x1.xs.length : Nat) : Int) 65535).toNat : Nat) : Int))]]) hB14 rfl (by simp))) Tryd.call28 (fun v15 w16 hk17 hv18 => ?_)) rfl
      have hl_b9_w16 := hB14.lt
      have hs_w16 := hK.size
      obtain ⟨n3, ao3, c3, rfl, hn3, hO3⟩ := hv18
      replace hK := hK.trans (Kp.ext hk17)
      replace hB14 := hB14.ext hk17
      replace hR := hR.ext hk17
      replace hRs := fun r hr => (hRs r hr).ext hk17
      replace hO := own_kp hO hk17 (fun _ _ _ x => x)
      replace hRx := hRx.ext hk17
      replace hRy := hRy.ext hk17
      replace hA8 := At.ext hA8 hk17
      have hP := Rd.of_ownF hO3 (fun _ => rfl) hn3
      clear hO3
      have hn3b : n3 = 2 := by simpa [leB_length] using hn3
      refine rl (o_appendR (css := ([(((min ((x1.xs.length : Nat) : Int) 65535).toNat : Nat) : Int)].flatMap (leB 2)).map encB) rfl rfl Tryd.underlying24 elt5 hO hP (one_map (fun _ => rfl)) (by omega) (by omega) (by have := hK.size; omega) (fun ao19 c20 w21 hk22 hO23 => ?_)) rfl
      replace hK := hK.later hk22 (fun i hi hS => by have := (own_lt hO i hS).1; omega)
      replace hB14 := hB14.grown hO (by decide) hk22
      replace hR := hR.kp hk22 (fun i _ hF hS => by have h1 : i < w.heap.size := hF; have h2 := (own_lt hO i hS).1; omega)
      replace hRs := fun r hr => (hRs r hr).kp hk22 (fun i _ hF hS => by have h1 : i < w.heap.size := hF; have h2 := (own_lt hO i hS).1; omega)
      replace hRx := hRx.kp hk22 (fun i _ hF hS => by have h1 : i < w.heap.size := hF; have h2 := (own_lt hO i hS).1; omega)
      replace hRy := hRy.kp hk22 (fun i _ hF hS => by have h1 : i < w.heap.size := hF; have h2 := (own_lt hO i hS).1; omega)
      clear hP
      have hOn : w21.ownsRow w.heap.size 5 1 (.slice ao19 (n + n3) c20) (n + n3) (((join ((rs.take i).map (·.xs))) ++ leB 2 ((((min ((x1.xs.length : Nat) : Int) 65535).toNat : Nat) : Int))).flatMap encB) := by simpa [List.flatMap_def] using hO23
      have hO := hOn; clear hOn
      refine rl (o_assign (v := .slice ao19 (n + n3) c20) rfl ?_) rfl
      refine rl_nil ?_
      refine cw_region rfl ?_
      refine rl (o_move (v := .slice ao19 (n + n3) c20) rfl ?_) rfl
      refine rl (o_move (v := .slice aoy ((min ((x1.xs.length : Nat) : Int) 65535).toNat) cy) rfl ?_) rfl
      refine rl (o_appendR (css := (x1.xs.take (min ((x1.xs.length : Nat) : Int) 65535).toNat).map encB) rfl rfl Tryd.underlying24 elt5 hO hRy (one_map (fun _ => rfl)) (by omega) (by omega) (by have := hK.size; omega) (fun ao24 c25 w26 hk27 hO28 => ?_)) rfl
      replace hK := hK.later hk27 (fun i hi hS => by have := (own_lt hO i hS).1; omega)
      replace hB14 := hB14.grown hO (by decide) hk27
      replace hR := hR.kp hk27 (fun i _ hF hS => by have h1 : i < w.heap.size := hF; have h2 := (own_lt hO i hS).1; omega)
      replace hRs := fun r hr => (hRs r hr).kp hk27 (fun i _ hF hS => by have h1 : i < w.heap.size := hF; have h2 := (own_lt hO i hS).1; omega)
      replace hRx := hRx.kp hk27 (fun i _ hF hS => by have h1 : i < w.heap.size := hF; have h2 := (own_lt hO i hS).1; omega)
      replace hRy := hRy.kp hk27 (fun i _ hF hS => by have h1 : i < w.heap.size := hF; have h2 := (own_lt hO i hS).1; omega)
      have hOn : w26.ownsRow w.heap.size 5 1 (.slice ao24 (n + n3 + (min ((x1.xs.length : Nat) : Int) 65535).toNat) c25) (n + n3 + (min ((x1.xs.length : Nat) : Int) 65535).toNat) (((join ((rs.take i).map (·.xs))) ++ leB 2 ((((min ((x1.xs.length : Nat) : Int) 65535).toNat : Nat) : Int)) ++ x1.xs.take (min ((x1.xs.length : Nat) : Int) 65535).toNat).flatMap encB) := by simpa [List.flatMap_def] using hO28
      have hO := hOn; clear hOn
      refine rl (o_assign (v := .slice ao24 (n + n3 + (min ((x1.xs.length : Nat) : Int) 65535).toNat) c25) rfl ?_) rfl
      refine rl_nil ?_
      refine k_bn ?_
      refine k_tn ?_
      refine cw_region rfl ?_
      refine rl (o_add64 (a := (i : Int)) (b := 1) rfl rfl (by omega) (by omega) ?_) rfl
      refine rl (o_move (v := .int .i64 ((i : Int) + 1)) rfl ?_) rfl
      refine rl_nil ?_
      refine k_tn ?_
      refine ⟨_, ?_, _, i + 1, n + n3 + (min ((x1.xs.length : Nat) : Int) 65535).toNat, _, _, upds_eq _ _ ⟨rfl, rfl, rfl, rfl, trivial⟩, rfl, by omega, (by rw [join_snoc hxe]; simp only [List.length_append, leB_length, List.length_take]; omega), hK, hR, hRs, (by rw [join_snoc hxe]; exact hO)⟩
      omega
    · skip
      refine cw_exit ?_
      refine k_te ?_
      refine k_te ?_
      refine k_bh ?_
      refine k_tn ?_
      refine cw_reg rfl ?_
      refine rl (o_move (v := .slice ao2 n c2) rfl ?_) rfl
      refine rl (o_assign (v := .slice ao2 n c2) rfl ?_) rfl
      refine rl_nil ?_
      refine cw_ret ?_
      refine ret_intro (v := .slice ao2 n c2) (res_ok (vs := [.slice ao2 n c2]) rfl ⟨rfl, trivial⟩) hK ?_
      exact ⟨_, _, _, rfl, by rw [hnn, show i = rs.length by omega, List.take_length], by rw [show i = rs.length by omega, List.take_length] at hO; exact hO⟩

theorem part_ok {F : Nat → Prop} (ao : Option Addr) (cp : Nat) (xs : List Int) (n : Nat) (w : World) (hl_n : n = xs.length) (hn : n ≤ 1000000000) (hB : isB xs) (hR : Rd F w 1 (.slice ao n cp) (xs.map encB)) :
    Calls Tryd.prog 37 #[.slice ao n cp] w (Ret Non w fun v w' => ∃ (rows : List Row) (n5 : Nat) (ao5 : Option Addr) (c5 : Nat), v = .tuple #[.slice ao5 n5 c5, .int .i64 (errOf (Plain.part (xs.length + 1) xs))] ∧ n5 = rows.length ∧ (∀ rs, Plain.part (xs.length + 1) xs = some rs → rows.map (·.xs) = rs) ∧ Rd (fun b => w.heap.size ≤ b) w' 1 (.slice ao5 n5 c5) (rows.map encR) ∧ ∀ r ∈ rows, Rd (fun b => w.heap.size ≤ b) w' 1 (.slice r.ao r.xs.length r.c) (r.xs.map encB)) := by
  have hK := Kp.refl Non w
  subst hl_n
  replace hR := hR.old
  refine calls_cw Tryd.func37 rfl (Nat.le_of_ble_eq_true rfl) ?_
  refine cw_reg rfl ?_
  refine rl (o_assign (v := .slice none 0 0) rfl ?_) rfl
  refine rl (o_assign (v := .int .i64 (0)) rfl ?_) rfl
  refine rl_nil ?_
  refine cw_reg rfl ?_
  refine rl (o_move (v := .slice ao xs.length cp) rfl ?_) rfl
  refine rl (o_call (clone_ok _ _ xs _ _ rfl hn hR) Tryd.call22 (fun v1 w2 hk3 hv4 => ?_)) rfl
  have hs_w2 := hK.size
  obtain ⟨n1, ao1, c1, rfl, hn1, hO1⟩ := hv4
  replace hK := hK.trans (Kp.ext hk3)
  replace hR := hR.ext hk3
  have hC := Rd.of_ownF hO1 (fun _ => rfl) hn1
  clear hO1
  subst hn1
  have hKa1 := hK
  have hKa1s := hK.size
  replace hK := Kp.refl Non w2
  replace hR := hR.old
  replace hC := hC.mono (G := fun b => (w).heap.size ≤ b ∧ b < w2.heap.size) (fun b hb h => ⟨by have h1 : w.heap.size ≤ b := h; omega, hb⟩)
  refine rl (o_assign (v := .slice ao1 xs.length c1) rfl ?_) rfl
  refine rl_nil ?_
  refine cw_reg rfl ?_
  refine rl (o_assign (v := .slice none 0 0) rfl ?_) rfl
  refine rl_nil ?_
  refine cw_seq ?_
  refine cw_block ?_
  refine cw_loop (fun mm ρ' w' => ∃ (ρ0 : Env) (rest : List Int) (ao4 : Option Addr) (c4 : Nat) (rows : List Row) (n5 : Nat) (ao5 : Option Addr) (c5 : Nat), (ρ' = upds ρ0 [(0, .slice ao4 rest.length c4), (4, .slice ao5 n5 c5)]) ∧ (mm = rest.length) ∧ (n5 = rows.length) ∧ (n5 + rest.length ≤ 1000000000) ∧ (isB rest) ∧ (∃ k, rest.length < k ∧ Plain.part (xs.length + 1) xs = (Plain.part k rest).map (fun rs => rows.map (·.xs) ++ rs)) ∧ (Kp Non w2 w') ∧ (Rd (fun b => (w).heap.size ≤ b ∧ b < w2.heap.size) w' 1 (.slice ao4 rest.length c4) ((rest).map encB)) ∧ (w'.ownsRow w2.heap.size 24 1 (.slice ao5 n5 c5) n5 (rows.flatMap encR)) ∧ (∀ r ∈ rows, Rd (fun b => (w).heap.size ≤ b ∧ b < w2.heap.size) w' 1 (.slice r.ao r.xs.length r.c) (r.xs.map encB))) ((xs).length) ?_ ?_
  · skip
    exact ⟨_, xs, _, _, [], 0, none, 0, upds_eq _ _ ⟨rfl, rfl, trivial⟩, rfl, rfl, (by omega), hB, ⟨xs.length + 1, by omega, by simp⟩, hK, hC, own_nil _ _ _ _, (by intro r hr; cases hr)⟩
  · rintro mm ρ1 w5 ⟨ρ0, rest, ao4, c4, rows, n5, ao5, c5, rfl, rfl, hn5, hle, hBr, hpart, hK, hQ, hO, hRs⟩
    refine cw_seq ?_
    refine cw_reg rfl ?_
    refine rl (o_move (v := .slice ao4 rest.length c4) rfl ?_) rfl
    refine rl (o_len rfl Tryd.underlying24 ?_) rfl
    refine rl (o_gtr rfl rfl ?_) rfl
    refine rl_nil ?_
    refine cw_if rfl (fun h6 => ?_) (fun h6 => ?_)
    · skip
      refine cw_skip ?_
      refine k_tn ?_
      refine cw_block ?_
      refine cw_seq ?_
      refine cw_reg rfl ?_
      refine rl (o_move (v := .slice ao4 rest.length c4) rfl ?_) rfl
      refine rl (o_len rfl Tryd.underlying24 ?_) rfl
      refine rl (o_lss rfl rfl ?_) rfl
      refine rl_nil ?_
      refine cw_if rfl (fun h7 => ?_) (fun h7 => ?_)
      · skip
        refine cw_reg rfl ?_
        refine rl (o_assign (v := .slice none 0 0) rfl ?_) rfl
        refine rl (o_assign (v := .int .i64 (10)) rfl ?_) rfl
        refine rl_nil ?_
        refine cw_ret ?_
        refine k_tr ?_
        refine k_br ?_
        refine k_tr ?_
        refine k_br ?_
        refine k_tr ?_
        refine ret_intro (v := .tuple #[.slice none 0 0, .int .i64 (10)]) (res_ok (vs := [.slice none 0 0, .int .i64 (10)]) rfl ⟨rfl, rfl, trivial⟩) (hKa1.trans hK) ?_
        obtain ⟨k, hk1, hk2⟩ := hpart
        obtain ⟨k, rfl⟩ : ∃ q, k = q + 1 := ⟨k - 1, by omega⟩
        rw [part_one (rest := rest) (k := k) (by omega)] at hk2
        exact ⟨[], 0, none, 0, (by rw [hk2]; rfl), rfl, (fun rs h => by rw [hk2] at h; cases h), Rd.nil _ _, (fun r hr => by cases hr)⟩
      · skip
        obtain ⟨b1, o1, x1, hao1, hxe, hA1⟩ := Rd.get hQ 0 (by omega)
        obtain ⟨b2, o2, y1, hao2, hye, hA2⟩ := Rd.get hQ 1 (by omega)
        have hx1 := hBr x1 (List.mem_of_getElem? hxe)
        have hy1 := hBr y1 (List.mem_of_getElem? hye)
        refine cw_skip ?_
        refine k_tn ?_
        refine cw_norm [(0, .slice ao4 rest.length c4), (4, .slice ao5 n5 c5)] ⟨rfl, rfl, trivial⟩ (fun ρr20 => ?_)
        refine cw_drawn [.val (.slice ao4 rest.length c4), .val (.pointer (some ⟨b1, o1 + 0 * 1, none⟩)), .val (.int .u8 (x1)), .val (.int .i64 (x1)), .val (.int .i64 (2 + x1)), .val (.slice ao4 rest.length c4), .val (.pointer (some ⟨b2, o2 + 1 * 1, none⟩)), .val (.int .u8 (y1)), .val (.int .i64 (y1)), .val (.int .i64 (y1 * 256))] [[], [0], [0, 1], [0, 1, 2], [0, 1, 2, 3], [], [5], [5, 6], [5, 6, 7], [5, 6, 7, 8], [0, 1, 2, 3, 4, 5, 6, 7, 8, 9], [0, 1, 2, 3, 4, 5, 6, 7, 8, 9, 10]] 10 mixed (by kernel_rfl) ⟨trivial, trivial, trivial, trivial, trivial, trivial, trivial, trivial, trivial, trivial, trivial⟩ ⟨⟨⟨⟨⟨⟨⟨⟨⟨⟨trivial, ?_⟩, ?_⟩, ?_⟩, ?_⟩, ?_⟩, ?_⟩, ?_⟩, ?_⟩, ?_⟩, ?_⟩ (fun w21 vs22 hE23 hkn24 => ?_)
        · refine obl_mk rfl (fun w21k vs hE hkn => ?_)
          replace hK := hK.trans (Kp.ext hE)
          replace hQ := hQ.ext hE
          replace hO := own_kp hO hE (fun _ _ _ x => x)
          replace hRs := fun r hr => (hRs r hr).ext hE
          replace hA1 := At.ext hA1 hE
          replace hA2 := At.ext hA2 hE
          refine obl_t rfl ?_
          refine opk_norm [(0, .slice ao4 rest.length c4)] ⟨rfl, trivial⟩ (fun ρq => ?_)
          refine o_move (v := .slice ao4 rest.length c4) rfl ?_
          exact ⟨Kp.refl _ _, rfl⟩
        · refine obl_mk rfl (fun w21k vs hE hkn => ?_)
          replace hK := hK.trans (Kp.ext hE)
          replace hQ := hQ.ext hE
          replace hO := own_kp hO hE (fun _ _ _ x => x)
          replace hRs := fun r hr => (hRs r hr).ext hE
          replace hA1 := At.ext hA1 hE
          replace hA2 := At.ext hA2 hE
          refine obl_t rfl ?_
          refine opk_norm [(14, .slice ao4 rest.length c4)] ⟨rfl, trivial⟩ (fun ρq => ?_)
          refine o_idxAt 0 rfl rfl Tryd.underlying24 Tryd.sizeOf5 hao1 (by omega) (by omega) ?_
          exact ⟨Kp.refl _ _, rfl⟩
        · refine obl_mk rfl (fun w21k vs hE hkn => ?_)
          replace hK := hK.trans (Kp.ext hE)
          replace hQ := hQ.ext hE
          replace hO := own_kp hO hE (fun _ _ _ x => x)
          replace hRs := fun r hr => (hRs r hr).ext hE
          replace hA1 := At.ext hA1 hE
          replace hA2 := At.ext hA2 hE
          refine obl_t rfl ?_
          refine opk_norm [(15, .pointer (some ⟨b1, o1 + 0 * 1, none⟩))] ⟨rfl, trivial⟩ (fun ρq => ?_)
          refine o_load (v := .int .u8 (x1)) rfl tyS5 (hA1 0 _ rfl) ?_
          exact ⟨Kp.refl _ _, rfl⟩
        · refine obl_mk rfl (fun w21k vs hE hkn => ?_)
          replace hK := hK.trans (Kp.ext hE)
          replace hQ := hQ.ext hE
          replace hO := own_kp hO hE (fun _ _ _ x => x)
          replace hRs := fun r hr => (hRs r hr).ext hE
          replace hA1 := At.ext hA1 hE
          replace hA2 := At.ext hA2 hE
          refine obl_t rfl ?_
          refine opk_norm [(16, .int .u8 (x1))] ⟨rfl, trivial⟩ (fun ρq => ?_)
          refine o_convI (a := x1) rfl ⟨_, Tryd.underlying5⟩ Tryd.underlying3 (by show (-9223372036854775808 : Int) ≤ _; omega) (by show _ ≤ (9223372036854775807 : Int); omega) ?_
          exact ⟨Kp.refl _ _, rfl⟩
        · refine obl_mk rfl (fun w21k vs hE hkn => ?_)
          replace hK := hK.trans (Kp.ext hE)
          replace hQ := hQ.ext hE
          replace hO := own_kp hO hE (fun _ _ _ x => x)
          replace hRs := fun r hr => (hRs r hr).ext hE
          replace hA1 := At.ext hA1 hE
          replace hA2 := At.ext hA2 hE
          refine obl_t rfl ?_
          refine opk_norm [(17, .int .i64 (x1))] ⟨rfl, trivial⟩ (fun ρq => ?_)
          refine o_add64 (a := 2) (b := x1) rfl rfl (by omega) (by omega) ?_
          exact ⟨Kp.refl _ _, rfl⟩
        · refine obl_mk rfl (fun w21k vs hE hkn => ?_)
          replace hK := hK.trans (Kp.ext hE)
          replace hQ := hQ.ext hE
          replace hO := own_kp hO hE (fun _ _ _ x => x)
          replace hRs := fun r hr => (hRs r hr).ext hE
          replace hA1 := At.ext hA1 hE
          replace hA2 := At.ext hA2 hE
          refine obl_t rfl ?_
          refine opk_norm [(0, .slice ao4 rest.length c4)] ⟨rfl, trivial⟩ (fun ρq => ?_)
          refine o_move (v := .slice ao4 rest.length c4) rfl ?_
          exact ⟨Kp.refl _ _, rfl⟩
        · refine obl_mk rfl (fun w21k vs hE hkn => ?_)
          replace hK := hK.trans (Kp.ext hE)
          replace hQ := hQ.ext hE
          replace hO := own_kp hO hE (fun _ _ _ x => x)
          replace hRs := fun r hr => (hRs r hr).ext hE
          replace hA1 := At.ext hA1 hE
          replace hA2 := At.ext hA2 hE
          refine obl_t rfl ?_
          refine opk_norm [(19, .slice ao4 rest.length c4)] ⟨rfl, trivial⟩ (fun ρq => ?_)
          refine o_idxAt 1 rfl rfl Tryd.underlying24 Tryd.sizeOf5 hao2 (by omega) (by omega) ?_
          exact ⟨Kp.refl _ _, rfl⟩
        · refine obl_mk rfl (fun w21k vs hE hkn => ?_)
          replace hK := hK.trans (Kp.ext hE)
          replace hQ := hQ.ext hE
          replace hO := own_kp hO hE (fun _ _ _ x => x)
          replace hRs := fun r hr => (hRs r hr).ext hE
          replace hA1 := At.ext hA1 hE
          replace hA2 := At.ext hA2 hE
          refine obl_t rfl ?_
          refine opk_norm [(20, .pointer (some ⟨b2, o2 + 1 * 1, none⟩))] ⟨rfl, trivial⟩ (fun ρq => ?_)
          refine o_load (v := .int .u8 (y1)) rfl tyS5 (hA2 0 _ rfl) ?_
          exact ⟨Kp.refl _ _, rfl⟩
        · refine obl_mk rfl (fun w21k vs hE hkn => ?_)
          replace hK := hK.trans (Kp.ext hE)
          replace hQ := hQ.ext hE
          replace hO := own_kp hO hE (fun _ _ _ x => x)
          replace hRs := fun r hr => (hRs r hr).ext hE
          replace hA1 := At.ext hA1 hE
          replace hA2 := At.ext hA2 hE
          refine obl_t rfl ?_
          refine opk_norm [(21, .int .u8 (y1))] ⟨rfl, trivial⟩ (fun ρq => ?_)
          refine o_convI (a := y1) rfl ⟨_, Tryd.underlying5⟩ Tryd.underlying3 (by show (-9223372036854775808 : Int) ≤ _; omega) (by show _ ≤ (9223372036854775807 : Int); omega) ?_
          exact ⟨Kp.refl _ _, rfl⟩
        · refine obl_mk rfl (fun w21k vs hE hkn => ?_)
          replace hK := hK.trans (Kp.ext hE)
          replace hQ := hQ.ext hE
          replace hO := own_kp hO hE (fun _ _ _ x => x)
          replace hRs := fun r hr => (hRs r hr).ext hE
          replace hA1 := At.ext hA1 hE
          replace hA2 := At.ext hA2 hE
          refine obl_t rfl ?_
          refine opk_norm [(22, .int .i64 (y1))] ⟨rfl, trivial⟩ (fun ρq => ?_)
          refine o_shl 8 256 rfl rfl rfl (by decide) rfl (by show (-9223372036854775808 : Int) ≤ _; omega) (by show _ ≤ (9223372036854775807 : Int); omega) ?_
          exact ⟨Kp.refl _ _, rfl⟩
        replace hK := hK.trans (Kp.ext hE23)
        replace hQ := hQ.ext hE23
        replace hO := own_kp hO hE23 (fun _ _ _ x => x)
        replace hRs := fun r hr => (hRs r hr).ext hE23
        replace hA1 := At.ext hA1 hE23
        replace hA2 := At.ext hA2 hE23
        refine rl_norm [(0, .slice ao4 rest.length c4), (4, .slice ao5 n5 c5), (18, .int .i64 (2 + x1)), (23, .int .i64 (y1 * 256))] ⟨rfl, rfl, rfl, rfl, trivial⟩ (fun ρr20q => ?_)
        refine rl (o_add64 (a := 2 + x1) (b := y1 * 256) rfl rfl (by omega) (by omega) ?_) rfl
        refine rl (o_assign (v := .int .i64 ((2 + x1) + (y1 * 256))) rfl ?_) rfl
        refine rl_nil ?_
        refine cw_seq ?_
        refine cw_reg rfl ?_
        refine rl (o_move (v := .int .i64 ((2 + x1) + (y1 * 256))) rfl ?_) rfl
        refine rl (o_move (v := .slice ao4 rest.length c4) rfl ?_) rfl
        refine rl (o_len rfl Tryd.underlying24 ?_) rfl
        refine rl (o_gtr rfl rfl ?_) rfl
        refine rl_nil ?_
        refine cw_if rfl (fun h37 => ?_) (fun h37 => ?_)
        · skip
          refine cw_reg rfl ?_
          refine rl (o_assign (v := .slice none 0 0) rfl ?_) rfl
          refine rl (o_assign (v := .int .i64 (10)) rfl ?_) rfl
          refine rl_nil ?_
          refine cw_ret ?_
          refine k_tr ?_
          refine k_br ?_
          refine k_tr ?_
          refine k_br ?_
          refine k_tr ?_
          refine ret_intro (v := .tuple #[.slice none 0 0, .int .i64 (10)]) (res_ok (vs := [.slice none 0 0, .int .i64 (10)]) rfl ⟨rfl, rfl, trivial⟩) (hKa1.trans hK) ?_
          obtain ⟨k, hk1, hk2⟩ := hpart
          obtain ⟨k, rfl⟩ : ∃ q, k = q + 1 := ⟨k - 1, by omega⟩
          rw [part_step (k := k) hxe hye (by omega) (by omega), if_pos (by omega)] at hk2
          exact ⟨[], 0, none, 0, (by rw [hk2]; rfl), rfl, (fun rs h => by rw [hk2] at h; cases h), Rd.nil _ _, (fun r hr => by cases hr)⟩
        · skip
          have hrl : ((rest.drop 2).take ((2 + x1 + y1 * 256).toNat - 2)).length = (2 + x1 + y1 * 256).toNat - 2 := by simp; omega
          refine cw_skip ?_
          refine k_tn ?_
          refine cw_reg rfl ?_
          refine rl (o_move (v := .slice ao5 n5 c5) rfl ?_) rfl
          refine rl (o_move (v := .slice ao4 rest.length c4) rfl ?_) rfl
          refine rl (o_move (v := .int .i64 ((2 + x1) + (y1 * 256))) rfl ?_) rfl
          refine rl (o_move (v := .int .i64 ((2 + x1) + (y1 * 256))) rfl ?_) rfl
          refine rl (o_slice3 (i := 2) (j := (2 + x1) + (y1 * 256)) (m := (2 + x1) + (y1 * 256)) rfl rfl rfl rfl Tryd.underlying24 Tryd.sizeOf5 hQ (by omega) (by omega) (by simp only [List.length_map]; omega) rfl (fun ao6 c6 hRow => ?_)) rfl
          replace hRow : Rd (fun b => (w).heap.size ≤ b ∧ b < w2.heap.size) w21 1 (.slice ao6 (((2 + x1) + (y1 * 256)).toNat - 2) c6) (((rest.drop 2).take (((2 + x1) + (y1 * 256)).toNat - 2)).map encB) := by first | exact hRow | (simp only [← List.map_drop, ← List.map_take] at hRow; exact hRow)
          refine rl (o_buildSlice (vs := [.slice ao6 (((2 + x1) + (y1 * 256)).toNat - 2) c6]) (n := 1) rfl Tryd.underlying33 elt24 rfl rfl (Nat.le_of_ble_eq_true rfl) (fun b38 w39 hb40 hz41 hk42 hB43 => ?_)) rfl
          replace hB43 : Box w39 b38 [.slice ao6 (((2 + x1) + (y1 * 256)).toNat - 2) c6] 24 := hB43
          have hs_b38 := hK.size
          replace hK := hK.trans (Kp.ext hk42)
          replace hQ := hQ.ext hk42
          replace hO := own_kp hO hk42 (fun _ _ _ x => x)
          replace hRs := fun r hr => (hRs r hr).ext hk42
          replace hRow := hRow.ext hk42
          replace hA1 := At.ext hA1 hk42
          replace hA2 := At.ext hA2 hk42
          refine rl (o_append (news := [.slice ao6 (((2 + x1) + (y1 * 256)).toNat - 2) c6]) rfl rfl Tryd.underlying33 elt24 hO (hB43.at_ 0 1) rfl (by simp [one]) (by omega) (by omega) (by have := hK.size; omega) (fun ao44 c45 w46 hk47 hO48 => ?_)) rfl
          replace hK := hK.later hk47 (fun i hi hS => by have := (own_lt hO i hS).1; omega)
          clear hB43
          replace hQ := hQ.kp hk47 (fun i _ hF hS => by have h1 : i < w2.heap.size := hF.2; have h2 := (own_lt hO i hS).1; omega)
          replace hRs := fun r hr => (hRs r hr).kp hk47 (fun i _ hF hS => by have h1 : i < w2.heap.size := hF.2; have h2 := (own_lt hO i hS).1; omega)
          replace hRow := hRow.kp hk47 (fun i _ hF hS => by have h1 : i < w2.heap.size := hF.2; have h2 := (own_lt hO i hS).1; omega)
          have hOn : w46.ownsRow w2.heap.size 24 1 (.slice ao44 (n5 + 1) c45) (n5 + 1) ((rows ++ [(⟨ao6, c6, (rest.drop 2).take ((2 + x1 + y1 * 256).toNat - 2)⟩ : Row)]).flatMap encR) := by simpa [encR, hrl] using hO48
          have hO := hOn; clear hOn
          refine rl (o_assign (v := .slice ao44 (n5 + 1) c45) rfl ?_) rfl
          refine rl_nil ?_
          refine cw_region rfl ?_
          refine rl (o_move (v := .slice ao4 rest.length c4) rfl ?_) rfl
          refine rl (o_move (v := .int .i64 ((2 + x1) + (y1 * 256))) rfl ?_) rfl
          refine rl (o_sliceFrom (i := (2 + x1) + (y1 * 256)) rfl rfl Tryd.underlying24 Tryd.sizeOf5 hQ (by omega) (by simp only [List.length_map]; omega) (fun ao7 c7 hQ2 => ?_)) rfl
          replace hQ2 : Rd (fun b => (w).heap.size ≤ b ∧ b < w2.heap.size) w46 1 (.slice ao7 (rest.length - ((2 + x1) + (y1 * 256)).toNat) c7) ((rest.drop ((2 + x1) + (y1 * 256)).toNat).map encB) := by first | exact hQ2 | (simp only [← List.map_drop, ← List.map_take] at hQ2; exact hQ2)
          refine rl (o_assign (v := .slice ao7 (rest.length - ((2 + x1) + (y1 * 256)).toNat) c7) rfl ?_) rfl
          refine rl_nil ?_
          refine k_bn ?_
          refine k_tn ?_
          refine ⟨_, ?_, _, rest.drop (2 + x1 + y1 * 256).toNat, ao7, c7, rows ++ [(⟨ao6, c6, (rest.drop 2).take ((2 + x1 + y1 * 256).toNat - 2)⟩ : Row)], n5 + 1, _, _, upds_eq _ _ ⟨(show (.slice ao7 (rest.length - ((2 + x1) + (y1 * 256)).toNat) c7 : Value) = .slice (ao7) (rest.drop (2 + x1 + y1 * 256).toNat).length (c7) from by simp), rfl, trivial⟩, rfl, (by simp; omega), (by simp; omega), (fun z hz => hBr z (List.mem_of_mem_drop hz)), (by obtain ⟨k, hk1, hk2⟩ := hpart; obtain ⟨k, rfl⟩ : ∃ q, k = q + 1 := ⟨k - 1, (by omega)⟩; refine ⟨k, (by simp; omega), ?_⟩; rw [hk2, part_step (k := k) hxe hye (by omega) (by omega), if_neg (by omega)]; cases Plain.part k (rest.drop (2 + x1 + y1 * 256).toNat) <;> simp), hK, (by simpa using hQ2), hO, (by intro r hr; rcases List.mem_append.1 hr with hr | hr; exact hRs r hr; simp at hr; subst hr; show Rd _ _ _ (.slice ao6 ((rest.drop 2).take ((2 + x1 + y1 * 256).toNat - 2)).length c6) (((rest.drop 2).take ((2 + x1 + y1 * 256).toNat - 2)).map encB); rw [hrl]; exact hRow)⟩
          simp; omega
    · skip
      refine cw_exit ?_
      refine k_te ?_
      refine k_te ?_
      refine k_bh ?_
      refine k_tn ?_
      refine cw_reg rfl ?_
      refine rl (o_move (v := .slice ao5 n5 c5) rfl ?_) rfl
      refine rl (o_assign (v := .slice ao5 n5 c5) rfl ?_) rfl
      refine rl (o_assign (v := .int .i64 (0)) rfl ?_) rfl
      refine rl_nil ?_
      refine cw_ret ?_
      refine ret_intro (v := .tuple #[.slice ao5 n5 c5, .int .i64 (0)]) (res_ok (vs := [.slice ao5 n5 c5, .int .i64 (0)]) rfl ⟨rfl, rfl, trivial⟩) (hKa1.trans hK) ?_
      obtain ⟨k, hk1, hk2⟩ := hpart
      obtain ⟨k, rfl⟩ : ∃ q, k = q + 1 := ⟨k - 1, by omega⟩
      obtain rfl : rest = [] := List.length_eq_zero_iff.1 (by omega)
      have hk3 : Plain.part (xs.length + 1) xs = some (rows.map (·.xs)) := by rw [hk2]; simp [Plain.part]
      exact ⟨rows, n5, _, _, (by rw [hk3]; rfl), hn5, (fun rs h => by rw [hk3] at h; injection h), (Rd.of_ownF hO (fun _ => rfl) hn5).mono (fun b _ h => Nat.le_trans hKa1s h), fun r hr => (hRs r hr).mono (fun b _ h => h.1)⟩
end Go.Proofs.YtcmlklnelipacaaDoor

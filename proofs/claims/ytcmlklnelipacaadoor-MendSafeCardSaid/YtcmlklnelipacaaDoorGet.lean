import Derived.Test.YtcmlklnelipacaaDoorChk
set_option linter.unusedVariables false
set_option linter.unusedSimpArgs false
set_option maxRecDepth 100000
namespace Go.Proofs.YtcmlklnelipacaaDoor
open Go.RowKit Plain

theorem byte_pow {d : Int} {j : Nat} (h0 : 0 ≤ d) (h1 : d < 256) (hj : j < 8) : 0 ≤ d * ((256 ^ j : Nat) : Int) ∧ d * ((256 ^ j : Nat) : Int) ≤ 18446744073709551615 := by
  match j, hj with
  | 0, _ | 1, _ | 2, _ | 3, _ | 4, _ | 5, _ | 6, _ | 7, _ => constructor <;> simp <;> omega
theorem leN_snoc (l : List Int) (d : Int) : leN (l ++ [d]) = leN l + d * ((256 ^ l.length : Nat) : Int) := by
  induction l with
  | nil => simp [leN]
  | cons x l ih =>
    have h1 : ((256 ^ (l.length + 1) : Nat) : Int) = 256 * ((256 ^ l.length : Nat) : Int) := by rw [Nat.pow_succ, Nat.mul_comm, Int.natCast_mul]; rfl
    simp only [List.cons_append, leN, ih, List.length_cons, h1]
    generalize ((256 ^ l.length : Nat) : Int) = P
    have : d * (256 * P) = 256 * (d * P) := by rw [← Int.mul_assoc, Int.mul_comm d 256, Int.mul_assoc]
    omega
theorem or_add {x d : Int} {j : Nat} (hx0 : 0 ≤ x) (hx1 : x < ((256 ^ j : Nat) : Int)) (h0 : 0 ≤ d) (h1 : d < 256) (hj : j < 8) : orI .u64 x (d * ((256 ^ j : Nat) : Int)) = x + d * ((256 ^ j : Nat) : Int) := by
  obtain ⟨a, rfl⟩ := Int.eq_ofNat_of_zero_le hx0
  obtain ⟨b, rfl⟩ := Int.eq_ofNat_of_zero_le h0
  have ha : a < 256 ^ j := by exact_mod_cast hx1
  have hp : (256 ^ j : Nat) = 2 ^ (8 * j) := by rw [Nat.pow_mul]
  have hb := byte_pow (d := (b : Int)) h0 h1 hj
  have hle : (256 ^ j : Nat) ≤ 256 ^ 7 := Nat.pow_le_pow_right (by decide) (by omega)
  have hle2 : (256 ^ 7 : Nat) = 72057594037927936 := by decide
  have e1 : ((b : Int) * ((256 ^ j : Nat) : Int)) = ((b * 256 ^ j : Nat) : Int) := by simp
  rw [e1] at hb ⊢
  have hb2 : b * 256 ^ j ≤ 18446744073709551615 := by have h9 := hb.2; generalize b * 256 ^ j = q at *; omega
  have hsum : a + b * 256 ^ j < 18446744073709551616 := by
    have : a + b * 256 ^ j < 256 ^ j * (b + 1) := by rw [Nat.mul_succ, Nat.mul_comm]; omega
    have h3 : 256 ^ j * (b + 1) ≤ 256 ^ j * 256 := Nat.mul_le_mul_left _ (by omega)
    have h4 : 256 ^ j * 256 ≤ 72057594037927936 * 256 := Nat.mul_le_mul_right _ (by omega)
    omega
  have ea : (BitVec.ofInt 64 (a : Int)).toNat = a := by
    rw [BitVec.ofInt_natCast, BitVec.toNat_ofNat]; omega
  have eb : (BitVec.ofInt 64 ((b * 256 ^ j : Nat) : Int)).toNat = b * 256 ^ j := by
    rw [BitVec.ofInt_natCast, BitVec.toNat_ofNat]; omega
  have eo : (BitVec.ofInt 64 (a : Int) ||| BitVec.ofInt 64 ((b * 256 ^ j : Nat) : Int)).toNat = a + b * 256 ^ j := by
    have h5 := Nat.shiftLeft_add_eq_or_of_lt (i := 8 * j) (b := a) (hp ▸ ha) b
    rw [Nat.shiftLeft_eq] at h5
    rw [BitVec.toNat_or, ea, eb, hp, Nat.or_comm, ← h5, Nat.add_comm]
  have e2 : ∀ y : Nat, IntKind.u64.wrap (y : Int) = (y : Int) % 18446744073709551616 := by intro y; simp [IntKind.wrap, IntKind.bits, IntKind.signed]
  show IntKind.u64.wrap ((BitVec.ofInt 64 (a : Int) ||| BitVec.ofInt 64 ((b * 256 ^ j : Nat) : Int)).toNat : Int) = _
  rw [eo, e2]
  omega
theorem isB_take {l : List Int} (h : isB l) (n : Nat) : isB (l.take n) := fun x hx => h x (List.mem_of_mem_take hx)
theorem get_ok {F : Nat → Prop} (sz : Nat) (ao : Option Addr) (cp : Nat) (xs : List Int) (n0 : Nat) (w : World) (hl_n0 : n0 = xs.length) (hsz : 1 ≤ sz ∧ sz ≤ 8) (hdv : sz ∣ n0) (hn : n0 ≤ 100000000) (hB : isB xs) (hR : Rd F w 1 (.slice ao n0 cp) (xs.map encB)) :
    Calls Tryd.prog 38 #[.int .i64 ((sz : Int)), .slice ao n0 cp] w (Ret Non w fun v w' => ∃ (n : Nat) (ao2 : Option Addr) (c2 : Nat), v = .tuple #[.slice ao2 n c2, .int .i64 0] ∧ n = (nums sz xs).length ∧ w'.ownsRow w.heap.size 36 1 (.slice ao2 n c2) n ((nums sz xs).flatMap encU)) := by
  have hK := Kp.refl Non w
  subst hl_n0
  replace hR := hR.old
  refine calls_cw Tryd.func38 rfl (Nat.le_of_ble_eq_true rfl) ?_
  refine cw_reg rfl ?_
  refine rl (o_assign (v := .slice none 0 0) rfl ?_) rfl
  refine rl (o_assign (v := .int .i64 (0)) rfl ?_) rfl
  refine rl_nil ?_
  refine cw_seq ?_
  refine cw_block ?_
  refine cw_reg rfl ?_
  refine rl (o_move (v := .int .i64 ((sz : Int))) rfl ?_) rfl
  refine rl (o_call (may_ok sz _) Tryd.call40 (fun v1 w2 hk3 hv4 => ?_)) rfl
  have hs_w2 := hK.size
  obtain rfl := hv4
  replace hK := hK.trans (Kp.ext hk3)
  replace hR := hR.ext hk3
  refine rl (o_not rfl ?_) rfl
  refine rl (o_assign (v := .bool (!(may (sz : Int)))) rfl ?_) rfl
  refine rl_nil ?_
  refine cw_cond rfl (fun h5 => ?_) (fun h5 => ?_)
  · skip
    exfalso; simp_all [may]; omega -- done
  · skip
    refine cw_reg rfl ?_
    refine rl (o_move (v := .slice ao xs.length cp) rfl ?_) rfl
    refine rl (o_len rfl Tryd.underlying24 ?_) rfl
    refine rl (o_move (v := .int .i64 ((sz : Int))) rfl ?_) rfl
    refine rl (o_rem rfl rfl (by omega) (by omega) ?_) rfl
    refine rl (o_neq rfl rfl ?_) rfl
    refine rl (o_assign (v := .bool (decide (((xs.length : Nat) : Int) % (sz : Int) ≠ 0))) rfl ?_) rfl
    refine rl_nil ?_
    refine cw_if rfl (fun h6 => ?_) (fun h6 => ?_)
    · skip
      exfalso
      have h9 : ((xs.length : Nat) : Int) % (sz : Int) = 0 := by rw [← Int.natCast_emod, Nat.mod_eq_zero_of_dvd hdv]; rfl
      simp_all -- done
    · skip
      refine cw_skip ?_
      refine k_bn ?_
      refine k_tn ?_
      refine cw_reg rfl ?_
      refine rl (o_alloc Tryd.zeroValue83 (fun b7 w8 hb9 hz10 hk11 hB12 => ?_)) rfl
      replace hB12 : Box w8 b7 [.slice none 0 0] 83 := hB12
      have hs_b7 := hK.size
      replace hK := hK.trans (Kp.ext hk11)
      replace hR := hR.ext hk11
      refine rl_nil ?_
      refine cw_seq2 rfl ?_
      refine rl (o_move (v := .slice ao xs.length cp) rfl ?_) rfl
      refine rl (o_move (v := .int .i64 ((sz : Int))) rfl ?_) rfl
      refine rl (o_call (chunkB_ok ao cp sz xs _ _ rfl (by omega)) Tryd.call45 (fun v13 w14 hk15 hv16 => ?_)) rfl
      have hl_b7_w14 := hB12.lt
      have hs_w14 := hK.size
      obtain ⟨bk2, bk3, rfl, hk2, hk3, hBk2, hBk3⟩ := hv16
      replace hK := hK.trans (Kp.ext hk15)
      replace hB12 := hB12.ext hk15
      replace hR := hR.ext hk15
      refine rl_nil ?_
      refine cw2_norm [(4, .slice none 0 0), (5, .int .i64 (0)), (6, .pointer (some ⟨b7, 0, none⟩)), (23, .func (.func 49) #[] #[.pointer (some ⟨bk2, 0, none⟩), .pointer (some ⟨bk3, 0, none⟩)])] ⟨rfl, rfl, rfl, rfl, trivial⟩ (fun ρr17 => ?_)
      have hKa1 := hK
      have hKa1s := hK.size
      replace hK := Kp.refl Non w14
      have hlr_b7 := hB12.lt
      have hlr_bk2 := hBk2.lt
      have hlr_bk3 := hBk3.lt
      refine cw_rf (α := ChunkB (fun k => k = b7 ∨ w14.heap.size ≤ k) w14 sz xs) (enc := fun x => .slice x.1.ao x.1.xs.length x.1.c) (S := (fun k => k = b7 ∨ w14.heap.size ≤ k)) (All := fun l => l.map (·.1.xs) = chunks sz (xs.length + 1) xs) (N := xs.length + 1) (gf := 49) (lb := [.pointer (some ⟨bk2, 0, none⟩), .pointer (some ⟨bk3, 0, none⟩)]) (by decide) rfl Tryd.call49 (fun k hk => .inr hk) (chunkB_seq ao cp sz xs bk2 bk3 ⟨hsz.1, by omega⟩ (by omega) (by show ¬ (bk2 = b7 ∨ w14.heap.size ≤ bk2); omega) (by show ¬ (bk3 = b7 ∨ w14.heap.size ≤ bk3); omega) hBk2 hBk3 (hR.mono (fun b hb h => ⟨by show ¬ (b = b7 ∨ w14.heap.size ≤ b); have h1 : b < (w).heap.size := h; omega, hb⟩))) (fun pre W => ∃ (n5 : Nat) (ao5 : Option Addr) (c5 : Nat), (n5 = (pre.map fun r => leN r.1.xs).length) ∧ (Kp (fun k => k = b7 ∨ w14.heap.size ≤ k) w14 W) ∧ (Box W b7 [.slice ao5 n5 c5] 83) ∧ (Box W bk2 [.slice ao xs.length cp] 24) ∧ (Box W bk3 [.int .i64 ((sz : Int))] 3) ∧ (Rd (fun b => b < (w).heap.size) W 1 (.slice ao xs.length cp) (xs.map encB)) ∧ (W.ownsRow w14.heap.size 36 1 (.slice ao5 n5 c5) n5 ((pre.map fun r => leN r.1.xs).flatMap encU))) ?_ ?_ (fun x => upd (upd (upds ρr17 [(4, .slice none 0 0), (5, .int .i64 (0)), (6, .pointer (some ⟨b7, 0, none⟩)), (23, .func (.func 49) #[] #[.pointer (some ⟨bk2, 0, none⟩), .pointer (some ⟨bk3, 0, none⟩)])]) 24 (.slice x.1.ao x.1.xs.length x.1.c)) 7 (.slice x.1.ao x.1.xs.length x.1.c)) ?_ ?_ ?_
      · exact ownFrom_of (fun pre W W' t ⟨n5, ao5, c5, hn5, hK, hB12, hBk2, hBk3, hR, hO⟩ => ⟨n5, ao5, c5, hn5, hK.turn t (Nat.le_refl _), hB12.turn t, hBk2.turn t, hBk3.turn t, hR.turn t, own_turn hO t⟩)
      · exact ⟨0, none, 0, rfl, Kp.refl _ _, hB12, hBk2, hBk3, hR, own_nil _ _ _ _⟩
      · intro l x W
        refine cw_region rfl ?_
        refine rl (o_assign (v := .slice x.1.ao x.1.xs.length x.1.c) rfl ?_) rfl
        exact ⟨rfl, rfl, rfl⟩
      · rintro l pre x w18 ⟨n5, ao5, c5, hn5, hK, hB12, hBk2, hBk3, hR, hO⟩ hlen
        have hK2 := Kp.refl (fun k => (fun k => k = b7 ∨ w14.heap.size ≤ k) k ∧ ∃ cs T f, w18.heap[k]? = some (.cells cs T f)) w18
        have hB0_b7 := hB12
        have hOr_hO := hO
        have hszr := hK.size
        refine cw_norm [(4, .slice none 0 0), (5, .int .i64 (0)), (6, .pointer (some ⟨b7, 0, none⟩)), (23, .func (.func 49) #[] #[.pointer (some ⟨bk2, 0, none⟩), .pointer (some ⟨bk3, 0, none⟩)]), (24, .slice x.1.ao x.1.xs.length x.1.c), (7, .slice x.1.ao x.1.xs.length x.1.c)] ⟨rfl, rfl, rfl, rfl, rfl, rfl, trivial⟩ (fun ρb => ?_)
        have hx := x.2
        have hxl : x.1.xs.length ≤ sz := hx.1
        have hX := (hx.2.2.2.2.kp hK (fun b _ h => h.1)).mono (G := fun b => ¬ (b = b7 ∨ w14.heap.size ≤ b)) (fun b _ h => h.1)
        have hBx : isB x.1.xs := fun z hz => hB z (hx.2.2.1 z hz)
        have hpl : n5 ≤ xs.length := by simp at hn5; omega
        refine cw_block ?_
        refine cw_reg rfl ?_
        refine rl (o_assign (v := .int .u64 (0)) rfl ?_) rfl
        refine rl_nil ?_
        refine cw_seq ?_
        refine cw_reg rfl ?_
        refine rl (o_move (v := .slice x.1.ao x.1.xs.length x.1.c) rfl ?_) rfl
        refine rl (o_len rfl Tryd.underlying24 ?_) rfl
        refine rl (o_move (v := .int .i64 (0)) rfl ?_) rfl
        refine rl_nil ?_
        refine cw_block ?_
        refine cw_loop (fun mm ρ' w' => ∃ (ρ0 : Env) (i : Nat), (ρ' = upds ρ0 [(6, .pointer (some ⟨b7, 0, none⟩)), (8, .int .u64 (leN (x.1.xs.take i))), (25, .slice x.1.ao x.1.xs.length x.1.c), (26, .int .i64 (((x.1.xs.length : Nat) : Int))), (27, .int .i64 ((i : Int)))]) ∧ (mm = x.1.xs.length - i) ∧ (i ≤ x.1.xs.length) ∧ (Kp ((fun k => k = b7 ∨ w14.heap.size ≤ k)) w14 w') ∧ (Kp (fun k => (fun k => k = b7 ∨ w14.heap.size ≤ k) k ∧ ∃ cs T f, w18.heap[k]? = some (.cells cs T f)) w18 w') ∧ (Box w' b7 [.slice ao5 n5 c5] 83) ∧ (Box w' bk2 [.slice ao xs.length cp] 24) ∧ (Box w' bk3 [.int .i64 ((sz : Int))] 3) ∧ (Rd (fun b => b < (w).heap.size) w' 1 (.slice ao xs.length cp) (xs.map encB)) ∧ (w'.ownsRow w14.heap.size 36 1 (.slice ao5 n5 c5) n5 ((pre.map fun r => leN r.1.xs).flatMap encU)) ∧ (Rd (fun b => ¬ (b = b7 ∨ w14.heap.size ≤ b)) w' 1 (.slice x.1.ao x.1.xs.length x.1.c) (x.1.xs.map encB))) (x.1.xs.length - (0)) ?_ ?_
        · skip
          exact ⟨_, 0, upds_eq _ _ ⟨rfl, rfl, rfl, rfl, rfl, trivial⟩, rfl, Nat.zero_le _, hK, hK2, hB12, hBk2, hBk3, hR, hO, hX⟩
        · rintro mm ρ1 w19 ⟨ρ0, i, rfl, rfl, hi, hK, hK2, hB12, hBk2, hBk3, hR, hO, hX⟩
          refine cw_reg rfl ?_
          refine rl (o_lss rfl rfl ?_) rfl
          refine rl_nil ?_
          refine cw_seq ?_
          refine cw_if rfl (fun h20 => ?_) (fun h20 => ?_)
          · skip
            refine cw_skip ?_
            refine k_tn ?_
            refine cw_seq ?_
            refine cw_block ?_
            refine cw_reg rfl ?_
            refine rl (o_move (v := .int .i64 ((i : Int))) rfl ?_) rfl
            refine rl (o_idxM (i := (i : Int)) (f := encB) (xs := x.1.xs) rfl rfl Tryd.underlying24 Tryd.sizeOf5 hX (by omega) (by omega) (fun b21 o22 y1 hx24 hF25 hA26 => ?_)) rfl
            have hye : x.1.xs[i]? = some y1 := by simpa using hx24
            have hy1 := hBx y1 (List.mem_of_getElem? hye)
            refine rl (o_load (v := .int .u8 (y1)) rfl tyS5 (hA26 0 _ rfl) ?_) rfl
            refine rl (o_assign (v := .int .i64 ((i : Int))) rfl ?_) rfl
            refine rl (o_assign (v := .int .u8 (y1)) rfl ?_) rfl
            refine rl_nil ?_
            refine cw_region rfl ?_
            refine rl (o_move (v := .int .u64 (leN (x.1.xs.take i))) rfl ?_) rfl
            refine rl (o_move (v := .int .u8 (y1)) rfl ?_) rfl
            refine rl (o_convI (a := y1) rfl ⟨_, Tryd.underlying5⟩ Tryd.underlying36 (by show (0 : Int) ≤ _; omega) (by show _ ≤ (18446744073709551615 : Int); omega) ?_) rfl
            refine rl (o_move (v := .int .i64 ((i : Int))) rfl ?_) rfl
            refine rl (o_mul64 (a := 8) (b := (i : Int)) rfl rfl (by omega) (by omega) ?_) rfl
            refine rl (o_shl (8 * i) ((256 ^ i : Nat) : Int) rfl rfl (by omega) (by show 8 * i ≤ 64; omega) (pow256 i).symm (byte_pow hy1.1 hy1.2 (by omega)).1 (byte_pow hy1.1 hy1.2 (by omega)).2 ?_) rfl
            refine rl (o_or rfl rfl ?_) rfl
            refine rl (o_assign (v := .int .u64 (orI .u64 (leN (x.1.xs.take i)) (y1 * ((256 ^ i : Nat) : Int)))) rfl ?_) rfl
            refine rl_nil ?_
            refine k_bn ?_
            refine k_tn ?_
            refine cw_region rfl ?_
            refine rl (o_add64 (a := (i : Int)) (b := 1) rfl rfl (by omega) (by omega) ?_) rfl
            refine rl (o_move (v := .int .i64 ((i : Int) + 1)) rfl ?_) rfl
            refine rl_nil ?_
            refine k_tn ?_
            refine ⟨_, ?_, _, i + 1, upds_eq _ _ ⟨rfl, (show (.int .u64 (orI .u64 (leN (x.1.xs.take i)) (y1 * ((256 ^ i : Nat) : Int))) : Value) = .int .u64 (leN (x.1.xs.take (i + 1))) from by rw [or_add (leN_bound _ (isB_take hBx i)).1 (by have := (leN_bound _ (isB_take hBx i)).2; rwa [List.length_take, Nat.min_eq_left hi] at this) hy1.1 hy1.2 (by omega), take_snoc hye, leN_snoc, List.length_take, Nat.min_eq_left hi]), rfl, rfl, rfl, trivial⟩, rfl, by omega, hK, hK2, hB12, hBk2, hBk3, hR, hO, hX⟩
            omega
          · skip
            refine cw_exit ?_
            refine k_te ?_
            refine k_te ?_
            refine k_bh ?_
            refine k_tn ?_
            refine cw_region rfl ?_
            refine rl (o_loadB (v := .slice ao5 n5 c5) rfl hB12 tyS83 rfl ?_) rfl
            refine rl (o_move (v := .int .u64 (leN (x.1.xs.take i))) rfl ?_) rfl
            refine rl (o_buildSlice (vs := [.int .u64 (leN (x.1.xs.take i))]) (n := 1) rfl Tryd.underlying83 elt36 rfl rfl (Nat.le_of_ble_eq_true rfl) (fun b27 w28 hb29 hz30 hk31 hB32 => ?_)) rfl
            replace hB32 : Box w28 b27 [.int .u64 (leN (x.1.xs.take i))] 36 := hB32
            have hs_b27 := hK.size
            have hl_b7_b27 := hB12.lt
            have hl_bk2_b27 := hBk2.lt
            have hl_bk3_b27 := hBk3.lt
            replace hK := hK.trans (Kp.ext hk31)
            replace hK2 := hK2.trans (Kp.ext hk31)
            replace hB12 := hB12.ext hk31
            replace hBk2 := hBk2.ext hk31
            replace hBk3 := hBk3.ext hk31
            replace hR := hR.ext hk31
            replace hO := own_kp hO hk31 (fun _ _ _ x => x)
            replace hX := hX.ext hk31
            refine rl (o_append (news := [.int .u64 (leN (x.1.xs.take i))]) rfl rfl Tryd.underlying83 elt36 hO (hB32.at_ 0 1) rfl (by simp [one]) (by omega) (by omega) (by have := hK.size; omega) (fun ao33 c34 w35 hk36 hO37 => ?_)) rfl
            replace hK := hK.later hk36 (fun i hi hS => by have := (own_lt hO i hS).1; omega)
            replace hK2 := hK2.later hk36 (fun i hi hS => by obtain ⟨h1, _, cur, h2⟩ := own_lt hOr_hO i hS; exact ⟨.inr h1, _, _, _, h2⟩)
            clear hB32
            replace hB12 := hB12.grown hO (by decide) hk36
            replace hBk2 := hBk2.grown hO (by decide) hk36
            replace hBk3 := hBk3.grown hO (by decide) hk36
            replace hR := hR.kp hk36 (fun i _ hF hS => by have h1 : i < (w).heap.size := hF; have h2 := (own_lt hO i hS).1; omega)
            replace hX := hX.kp hk36 (fun i _ hF hS => by have h1 : ¬ (i = b7 ∨ w14.heap.size ≤ i) := hF; have h2 := (own_lt hO i hS).1; omega)
            have hOn : w35.ownsRow w14.heap.size 36 1 (.slice ao33 (n5 + 1) c34) (n5 + 1) (((pre ++ [x]).map fun r => leN r.1.xs).flatMap encU) := by rw [show x.1.xs.take i = x.1.xs from List.take_of_length_le (by omega)] at hO37; simpa [encU] using hO37
            have hO := hOn; clear hOn
            refine rl0 (o_store1 (v := .slice ao33 (n5 + 1) c34) rfl rfl hB12 tyS83 rfl (Nat.le_of_ble_eq_true rfl) (fun w38 hk39 hz40 hB41 => ?_)) rfl
            replace hB41 : Box w38 b7 [.slice ao33 (n5 + 1) c34] 83 := hB41
            replace hK := hK.later hk39 (fun i hi hS => .inl hS)
            replace hK2 := hK2.later hk39 (fun i hi hS => ⟨.inl hS, _, _, _, (show i = b7 from hS) ▸ hB0_b7⟩)
            replace hBk2 := hBk2.kp hk39 (by show ¬ bk2 = b7; omega)
            replace hBk3 := hBk3.kp hk39 (by show ¬ bk3 = b7; omega)
            replace hR := hR.kp hk39 (fun i _ hF hS => by have h1 : i < (w).heap.size := hF; have h2 : i = b7 := hS; omega)
            replace hX := hX.kp hk39 (fun i _ hF hS => by have h1 : ¬ (i = b7 ∨ w14.heap.size ≤ i) := hF; have h2 : i = b7 := hS; omega)
            replace hO := own_other hO hB12 (by decide) hk39
            replace hB12 := hB41
            refine rl_nil ?_
            refine k_bn ?_
            exact ⟨rfl, keeps_of hK2 (fun k h => h.2), hK2.mono (fun k _ h => h.1), n5 + 1, _, _, by simp; simpa using hn5, hK, hB12, hBk2, hBk3, hR, hO⟩
      · rintro D ys w42 hD hAll ⟨n5, ao5, c5, hn5, hK, hB12, hBk2, hBk3, hR, hO⟩ hmk
        replace hK := hKa1.later hK (fun i hi hS => by rcases hS with h | h <;> omega)
        have hnums : (ys.map fun r => leN r.1.xs) = nums sz xs := by
          unfold nums; rw [← hAll, List.map_map]; rfl
        rw [hnums] at hO hn5
        refine cw_reg rfl ?_
        refine rl (o_loadB (v := .slice ao5 n5 c5) rfl hB12 tyS83 rfl ?_) rfl
        refine rl (o_assign (v := .slice ao5 n5 c5) rfl ?_) rfl
        refine rl (o_assign (v := .int .i64 (0)) rfl ?_) rfl
        refine rl_nil ?_
        refine cw_ret ?_
        obtain ⟨w43, hWF⟩ : ∃ W, W = w42.putObj D (.deferred none) := ⟨_, rfl⟩
        have t := turn_mark hmk hWF
        replace hK := hK.turn t (by omega)
        replace hB12 := hB12.turn t
        replace hBk2 := hBk2.turn t
        replace hBk3 := hBk3.turn t
        replace hR := hR.turn t
        replace hO := own_turn hO t
        refine ret_F (v := .tuple #[.slice ao5 n5 c5, .int .i64 (0)]) hmk hWF (res_ok (vs := [.slice ao5 n5 c5, .int .i64 (0)]) rfl ⟨rfl, rfl, trivial⟩) hK ?_
        exact ⟨n5, ao5, c5, rfl, hn5, own_mono hO (by omega)⟩
end Go.Proofs.YtcmlklnelipacaaDoor

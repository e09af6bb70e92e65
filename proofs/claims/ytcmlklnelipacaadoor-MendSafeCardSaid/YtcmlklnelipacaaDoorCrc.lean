import Derived.Test.YtcmlklnelipacaaDoorOct
set_option linter.unusedVariables false
set_option linter.unusedSimpArgs false
set_option maxRecDepth 100000
namespace Go.Proofs.YtcmlklnelipacaaDoor
open Go.RowKit Plain
theorem tyS90 : TyS Tryd.prog 90 := ⟨Tryd.isAgg90, Tryd.sizeOf90⟩
def HALF : List Int := [0, 498536548, 997073096, 651767980, 1994146192, 1802195444, 1303535960, 1342533948, 3988292384, 4027552580, 3604390888, 3412177804, 2607071920, 2262029012, 2685067896, 3183342108]
def tabI (i : Int) : Int := HALF.getD i.toNat 0
/-- the table's cells, at the global block 0 -/
def Tab (w : World) : Prop := 0 < w.heap.size ∧ At w ⟨0, 0, none⟩ (HALF.map (Value.int .u32))
theorem Tab.kp {S : Nat → Prop} {w w' : World} (h : Tab w) (hk : Kp S w w') (hs : ¬ S 0) : Tab w' :=
  ⟨Nat.lt_of_lt_of_le h.1 hk.size, h.2.of_block (hk.block 0 h.1 hs)⟩
theorem Tab.ext {w w' : World} (h : Tab w) (hk : Ext w w') : Tab w' := h.kp hk (fun x => x)
theorem Tab.get {w : World} (h : Tab w) (i : Int) (h0 : 0 ≤ i) (h1 : i ≤ 15) : w.cell? ⟨0, 0 + i.toNat * 1, none⟩ = some (.int .u32 (tabI i)) := by
  have hl : i.toNat < HALF.length := by show i.toNat < 16; omega
  have := h.2 i.toNat (.int .u32 (tabI i)) (by rw [List.getElem?_map, List.getElem?_eq_getElem hl]; simp [tabI, hl])
  rw [add_lit] at this
  simpa using this
def crcStep (x c : Int) : Int :=
  xorI .u32 (xorI .u32 (xorI .u32 x c / 16) (tabI (andI .u32 (xorI .u32 x c) 15)) / 16) (tabI (andI .u32 (xorI .u32 (xorI .u32 x c / 16) (tabI (andI .u32 (xorI .u32 x c) 15))) 15))
def crcOf (xs : List Int) : Int := xorI .u32 4294967295 (xs.foldl crcStep 4294967295)
theorem crc_range (xs : List Int) : 0 ≤ crcOf xs ∧ crcOf xs ≤ 4294967295 := xor32_range _ _
def rowsX (rs : List Row) : List Int := rs.flatMap (·.xs)
theorem crcof_ok {F : Nat → Prop} (ao : Option Addr) (cp : Nat) (rs : List Row) (n : Nat) (w : World) (hl_n : n = rs.length) (hn : n ≤ 1000000000) (hB : ∀ r ∈ rs, r.xs.length ≤ 1000000000 ∧ isB r.xs) (hT : Tab w) (hR : Rd F w 1 (.slice ao n cp) (rs.map encR)) (hRs : ∀ r ∈ rs, Rd (F) w 1 (.slice r.ao r.xs.length r.c) (r.xs.map encB)) :
    Calls Tryd.prog 41 #[.slice ao n cp] w (Ret Non w fun v w' => v = .int .u32 (crcOf (rowsX rs))) := by
  have hK := Kp.refl Non w
  subst hl_n
  replace hR := hR.old
  replace hRs := fun r hr => (hRs r hr).old
  refine calls_cw Tryd.func41 rfl (Nat.le_of_ble_eq_true rfl) ?_
  refine cw_reg rfl ?_
  refine rl (o_assign (v := .int .u32 (0)) rfl ?_) rfl
  refine rl_nil ?_
  refine cw_reg rfl ?_
  refine rl (o_assign (v := .int .u32 (4294967295)) rfl ?_) rfl
  refine rl_nil ?_
  refine cw_seq ?_
  refine cw_reg rfl ?_
  refine rl (o_move (v := .slice ao rs.length cp) rfl ?_) rfl
  refine rl (o_len rfl Tryd.underlying33 ?_) rfl
  refine rl (o_move (v := .int .i64 (0)) rfl ?_) rfl
  refine rl_nil ?_
  refine cw_block ?_
  refine cw_loop (fun mm ρ' w' => ∃ (ρ0 : Env) (i : Nat), (ρ' = upds ρ0 [(3, .int .u32 (((rowsX (rs.take i)).foldl crcStep 4294967295))), (8, .slice ao rs.length cp), (9, .int .i64 (((rs.length : Nat) : Int))), (10, .int .i64 ((i : Int)))]) ∧ (mm = rs.length - i) ∧ (i ≤ rs.length) ∧ (Kp Non w w') ∧ (Tab w') ∧ (Rd (fun b => b < w.heap.size) w' 1 (.slice ao rs.length cp) (rs.map encR)) ∧ (∀ r ∈ rs, Rd (fun b => b < w.heap.size) w' 1 (.slice r.ao r.xs.length r.c) (r.xs.map encB))) (rs.length - (0)) ?_ ?_
  · skip
    exact ⟨_, 0, upds_eq _ _ ⟨rfl, rfl, rfl, rfl, trivial⟩, rfl, Nat.zero_le _, hK, hT, hR, hRs⟩
  · rintro mm ρ1 w1 ⟨ρ0, i, rfl, rfl, hi, hK, hT, hR, hRs⟩
    refine cw_reg rfl ?_
    refine rl (o_lss rfl rfl ?_) rfl
    refine rl_nil ?_
    refine cw_seq ?_
    refine cw_if rfl (fun h2 => ?_) (fun h2 => ?_)
    · skip
      refine cw_skip ?_
      refine k_tn ?_
      refine cw_seq ?_
      refine cw_block ?_
      refine cw_reg rfl ?_
      refine rl (o_idxM (i := (i : Int)) (f := encR) (xs := rs) rfl rfl Tryd.underlying33 Tryd.sizeOf24 hR (by omega) (by omega) (fun b3 o4 x1 hx6 hF7 hA8 => ?_)) rfl
      have hxe : rs[i]? = some x1 := by simpa using hx6
      have hRx := hRs x1 (List.mem_of_getElem? hxe)
      have hBx := hB x1 (List.mem_of_getElem? hxe)
      refine rl (o_load (v := .slice x1.ao x1.xs.length x1.c) rfl tyS24 (hA8 0 _ rfl) ?_) rfl
      refine rl (o_assign (v := .slice x1.ao x1.xs.length x1.c) rfl ?_) rfl
      refine rl_nil ?_
      refine cw_reg rfl ?_
      refine rl (o_move (v := .slice x1.ao x1.xs.length x1.c) rfl ?_) rfl
      refine rl (o_len rfl Tryd.underlying24 ?_) rfl
      refine rl (o_move (v := .int .i64 (0)) rfl ?_) rfl
      refine rl_nil ?_
      refine cw_block ?_
      refine cw_loop (fun mm ρ' w' => ∃ (ρ0 : Env) (j : Nat), (ρ' = upds ρ0 [(3, .int .u32 (((rowsX (rs.take i) ++ x1.xs.take j).foldl crcStep 4294967295))), (8, .slice ao rs.length cp), (9, .int .i64 (((rs.length : Nat) : Int))), (10, .int .i64 ((i : Int))), (14, .slice x1.ao x1.xs.length x1.c), (15, .int .i64 (((x1.xs.length : Nat) : Int))), (16, .int .i64 ((j : Int)))]) ∧ (mm = x1.xs.length - j) ∧ (j ≤ x1.xs.length) ∧ (Kp Non w w') ∧ (Tab w') ∧ (Rd (fun b => b < w.heap.size) w' 1 (.slice ao rs.length cp) (rs.map encR)) ∧ (∀ r ∈ rs, Rd (fun b => b < w.heap.size) w' 1 (.slice r.ao r.xs.length r.c) (r.xs.map encB)) ∧ (Rd (fun b => b < w.heap.size) w' 1 (.slice x1.ao x1.xs.length x1.c) (x1.xs.map encB))) (x1.xs.length - (0)) ?_ ?_
      · skip
        exact ⟨_, 0, upds_eq _ _ ⟨(show (.int .u32 (((rowsX (rs.take i)).foldl crcStep 4294967295)) : Value) = .int .u32 (((rowsX (rs.take i) ++ x1.xs.take (0)).foldl crcStep 4294967295)) from by simp), rfl, rfl, rfl, rfl, rfl, rfl, trivial⟩, rfl, Nat.zero_le _, hK, hT, hR, hRs, hRx⟩
      · rintro mm ρ1 w9 ⟨ρ0, j, rfl, rfl, hj, hK, hT, hR, hRs, hRx⟩
        refine cw_reg rfl ?_
        refine rl (o_lss rfl rfl ?_) rfl
        refine rl_nil ?_
        refine cw_seq ?_
        refine cw_if rfl (fun h10 => ?_) (fun h10 => ?_)
        · skip
          refine cw_skip ?_
          refine k_tn ?_
          refine cw_seq ?_
          refine cw_block ?_
          refine cw_reg rfl ?_
          refine rl (o_idxM (i := (j : Int)) (f := encB) (xs := x1.xs) rfl rfl Tryd.underlying24 Tryd.sizeOf5 hRx (by omega) (by omega) (fun b11 o12 y1 hx14 hF15 hA16 => ?_)) rfl
          have hye : x1.xs[j]? = some y1 := by simpa using hx14
          have hy1 := hBx.2 y1 (List.mem_of_getElem? hye)
          refine rl (o_load (v := .int .u8 (y1)) rfl tyS5 (hA16 0 _ rfl) ?_) rfl
          refine rl (o_assign (v := .int .u8 (y1)) rfl ?_) rfl
          refine rl_nil ?_
          refine cw_reg rfl ?_
          refine rl (o_move (v := .int .u32 (((rowsX (rs.take i) ++ x1.xs.take j).foldl crcStep 4294967295))) rfl ?_) rfl
          refine rl (o_move (v := .int .u8 (y1)) rfl ?_) rfl
          refine rl (o_convI (a := y1) rfl ⟨_, Tryd.underlying5⟩ Tryd.underlying90 (by show (0 : Int) ≤ _; omega) (by show _ ≤ (4294967295 : Int); omega) ?_) rfl
          refine rl (o_xor rfl rfl ?_) rfl
          refine rl (o_assign (v := .int .u32 (xorI .u32 ((rowsX (rs.take i) ++ x1.xs.take j).foldl crcStep 4294967295) y1)) rfl ?_) rfl
          refine rl_nil ?_
          refine cw_reg rfl ?_
          refine rl (o_move (v := .int .u32 (xorI .u32 ((rowsX (rs.take i) ++ x1.xs.take j).foldl crcStep 4294967295) y1)) rfl ?_) rfl
          refine rl (o_shr 4 16 rfl rfl rfl (by decide) rfl ?_) rfl
          refine rl (o_move (v := .int .u32 (xorI .u32 ((rowsX (rs.take i) ++ x1.xs.take j).foldl crcStep 4294967295) y1)) rfl ?_) rfl
          refine rl (o_and rfl rfl ?_) rfl
          refine rl (o_idxArr (i := andI .u32 (xorI .u32 ((rowsX (rs.take i) ++ x1.xs.take j).foldl crcStep 4294967295) y1) 15) rfl rfl Tryd.underlying99 Tryd.sizeOf90 (and15_range (xorI .u32 ((rowsX (rs.take i) ++ x1.xs.take j).foldl crcStep 4294967295) y1)).1 (by have := (and15_range (xorI .u32 ((rowsX (rs.take i) ++ x1.xs.take j).foldl crcStep 4294967295) y1)).2; omega) ?_) rfl
          refine rl (o_load (v := .int .u32 (tabI (andI .u32 (xorI .u32 ((rowsX (rs.take i) ++ x1.xs.take j).foldl crcStep 4294967295) y1) 15))) rfl tyS90 (hT.get _ (and15_range _).1 (and15_range _).2) ?_) rfl
          refine rl (o_xor rfl rfl ?_) rfl
          refine rl (o_assign (v := .int .u32 (xorI .u32 ((xorI .u32 ((rowsX (rs.take i) ++ x1.xs.take j).foldl crcStep 4294967295) y1) / 16) (tabI (andI .u32 (xorI .u32 ((rowsX (rs.take i) ++ x1.xs.take j).foldl crcStep 4294967295) y1) 15)))) rfl ?_) rfl
          refine rl_nil ?_
          refine cw_region rfl ?_
          refine rl (o_move (v := .int .u32 (xorI .u32 ((xorI .u32 ((rowsX (rs.take i) ++ x1.xs.take j).foldl crcStep 4294967295) y1) / 16) (tabI (andI .u32 (xorI .u32 ((rowsX (rs.take i) ++ x1.xs.take j).foldl crcStep 4294967295) y1) 15)))) rfl ?_) rfl
          refine rl (o_shr 4 16 rfl rfl rfl (by decide) rfl ?_) rfl
          refine rl (o_move (v := .int .u32 (xorI .u32 ((xorI .u32 ((rowsX (rs.take i) ++ x1.xs.take j).foldl crcStep 4294967295) y1) / 16) (tabI (andI .u32 (xorI .u32 ((rowsX (rs.take i) ++ x1.xs.take j).foldl crcStep 4294967295) y1) 15)))) rfl ?_) rfl
          refine rl (o_and rfl rfl ?_) rfl
          refine rl (o_idxArr (i := andI .u32 (xorI .u32 ((xorI .u32 ((rowsX (rs.take i) ++ x1.xs.take j).foldl crcStep 4294967295) y1) / 16) (tabI (andI .u32 (xorI .u32 ((rowsX (rs.take i) ++ x1.xs.take j).foldl crcStep 4294967295) y1) 15))) 15) rfl rfl Tryd.underlying99 Tryd.sizeOf90 (and15_range (xorI .u32 ((xorI .u32 ((rowsX (rs.take i) ++ x1.xs.take j).foldl crcStep 4294967295) y1) / 16) (tabI (andI .u32 (xorI .u32 ((rowsX (rs.take i) ++ x1.xs.take j).foldl crcStep 4294967295) y1) 15)))).1 (by have := (and15_range (xorI .u32 ((xorI .u32 ((rowsX (rs.take i) ++ x1.xs.take j).foldl crcStep 4294967295) y1) / 16) (tabI (andI .u32 (xorI .u32 ((rowsX (rs.take i) ++ x1.xs.take j).foldl crcStep 4294967295) y1) 15)))).2; omega) ?_) rfl
          refine rl (o_load (v := .int .u32 (tabI (andI .u32 (xorI .u32 ((xorI .u32 ((rowsX (rs.take i) ++ x1.xs.take j).foldl crcStep 4294967295) y1) / 16) (tabI (andI .u32 (xorI .u32 ((rowsX (rs.take i) ++ x1.xs.take j).foldl crcStep 4294967295) y1) 15))) 15))) rfl tyS90 (hT.get _ (and15_range _).1 (and15_range _).2) ?_) rfl
          refine rl (o_xor rfl rfl ?_) rfl
          refine rl (o_assign (v := .int .u32 (xorI .u32 ((xorI .u32 ((xorI .u32 ((rowsX (rs.take i) ++ x1.xs.take j).foldl crcStep 4294967295) y1) / 16) (tabI (andI .u32 (xorI .u32 ((rowsX (rs.take i) ++ x1.xs.take j).foldl crcStep 4294967295) y1) 15))) / 16) (tabI (andI .u32 (xorI .u32 ((xorI .u32 ((rowsX (rs.take i) ++ x1.xs.take j).foldl crcStep 4294967295) y1) / 16) (tabI (andI .u32 (xorI .u32 ((rowsX (rs.take i) ++ x1.xs.take j).foldl crcStep 4294967295) y1) 15))) 15)))) rfl ?_) rfl
          refine rl_nil ?_
          refine k_bn ?_
          refine k_tn ?_
          refine cw_region rfl ?_
          refine rl (o_add64 (a := (j : Int)) (b := 1) rfl rfl (by omega) (by omega) ?_) rfl
          refine rl (o_move (v := .int .i64 ((j : Int) + 1)) rfl ?_) rfl
          refine rl_nil ?_
          refine k_tn ?_
          refine ⟨_, ?_, _, j + 1, upds_eq _ _ ⟨(show (.int .u32 (xorI .u32 ((xorI .u32 ((xorI .u32 ((rowsX (rs.take i) ++ x1.xs.take j).foldl crcStep 4294967295) y1) / 16) (tabI (andI .u32 (xorI .u32 ((rowsX (rs.take i) ++ x1.xs.take j).foldl crcStep 4294967295) y1) 15))) / 16) (tabI (andI .u32 (xorI .u32 ((xorI .u32 ((rowsX (rs.take i) ++ x1.xs.take j).foldl crcStep 4294967295) y1) / 16) (tabI (andI .u32 (xorI .u32 ((rowsX (rs.take i) ++ x1.xs.take j).foldl crcStep 4294967295) y1) 15))) 15))) : Value) = .int .u32 (((rowsX (rs.take i) ++ x1.xs.take (j + 1)).foldl crcStep 4294967295)) from by rw [take_snoc hye, ← List.append_assoc, List.foldl_append (l' := [y1])]; rfl), rfl, rfl, rfl, rfl, rfl, rfl, trivial⟩, rfl, by omega, hK, hT, hR, hRs, hRx⟩
          omega
        · skip
          refine cw_exit ?_
          refine k_te ?_
          refine k_te ?_
          refine k_bh ?_
          refine k_bn ?_
          refine k_tn ?_
          refine cw_region rfl ?_
          refine rl (o_add64 (a := (i : Int)) (b := 1) rfl rfl (by omega) (by omega) ?_) rfl
          refine rl (o_move (v := .int .i64 ((i : Int) + 1)) rfl ?_) rfl
          refine rl_nil ?_
          refine k_tn ?_
          refine ⟨_, ?_, _, i + 1, upds_eq _ _ ⟨(show (.int .u32 (((rowsX (rs.take i) ++ x1.xs.take j).foldl crcStep 4294967295)) : Value) = .int .u32 (((rowsX (rs.take (i + 1))).foldl crcStep 4294967295)) from by rw [show x1.xs.take j = x1.xs from List.take_of_length_le (by omega)]; unfold rowsX; rw [flat_snoc hxe]), rfl, rfl, rfl, trivial⟩, rfl, by omega, hK, hT, hR, hRs⟩
          omega
    · skip
      refine cw_exit ?_
      refine k_te ?_
      refine k_te ?_
      refine k_bh ?_
      refine k_tn ?_
      refine cw_reg rfl ?_
      refine rl (o_move (v := .int .u32 (((rowsX (rs.take i)).foldl crcStep 4294967295))) rfl ?_) rfl
      refine rl (o_notI rfl ?_) rfl
      refine rl (o_assign (v := .int .u32 (xorI .u32 4294967295 ((rowsX (rs.take i)).foldl crcStep 4294967295))) rfl ?_) rfl
      refine rl_nil ?_
      refine cw_ret ?_
      refine ret_intro (v := .int .u32 (xorI .u32 4294967295 ((rowsX (rs.take i)).foldl crcStep 4294967295))) (res_ok (vs := [.int .u32 (xorI .u32 4294967295 ((rowsX (rs.take i)).foldl crcStep 4294967295))]) rfl ⟨rfl, trivial⟩) hK ?_
      rw [show i = rs.length by omega, List.take_length]; rfl

theorem sealb_ok {F : Nat → Prop} (ao : Option Addr) (cp : Nat) (xs : List Int) (n0 : Nat) (w : World) (hl_n0 : n0 = xs.length) (hn : n0 ≤ 1000000000) (hB : isB xs) (hT : Tab w) (hR : Rd F w 1 (.slice ao n0 cp) (xs.map encB)) :
    Calls Tryd.prog 29 #[.slice ao n0 cp] w (Ret Non w fun v w' => ∃ (n : Nat) (ao2 : Option Addr) (c2 : Nat), v = .slice ao2 n c2 ∧ n = (sealB crcOf xs).length ∧ w'.ownsRow w.heap.size 5 1 (.slice ao2 n c2) n ((sealB crcOf xs).flatMap encB)) := by
  have hK := Kp.refl Non w
  subst hl_n0
  replace hR := hR.old
  have h00 := hT.1
  have hcr := crc_range xs
  refine calls_cw Tryd.func29 rfl (Nat.le_of_ble_eq_true rfl) ?_
  refine cw_reg rfl ?_
  refine rl (o_assign (v := .slice none 0 0) rfl ?_) rfl
  refine rl_nil ?_
  refine cw_reg rfl ?_
  refine rl (o_move (v := .slice ao xs.length cp) rfl ?_) rfl
  refine rl (o_call (clone_ok _ _ xs _ _ rfl hn hR) Tryd.call22 (fun v1 w2 hk3 hv4 => ?_)) rfl
  have hs_w2 := hK.size
  obtain ⟨n1, ao1, c1, rfl, hn1, hO⟩ := hv4
  replace hK := hK.trans (Kp.ext hk3)
  replace hT := hT.ext hk3
  replace hR := hR.ext hk3
  refine rl (o_move (v := .slice ao xs.length cp) rfl ?_) rfl
  refine rl (o_buildSlice (vs := [.slice ao xs.length cp]) (n := 1) rfl Tryd.underlying33 elt24 rfl rfl (Nat.le_of_ble_eq_true rfl) (fun b5 w6 hb7 hz8 hk9 hB10 => ?_)) rfl
  replace hB10 : Box w6 b5 [.slice ao xs.length cp] 24 := hB10
  have hs_b5 := hK.size
  replace hK := hK.trans (Kp.ext hk9)
  replace hT := hT.ext hk9
  replace hR := hR.ext hk9
  replace hO := own_kp hO hk9 (fun _ _ _ x => x)
  refine rl (o_call (crcof_ok _ _ [⟨ao, cp, xs⟩] _ _ rfl (by decide) (by intro r hr; simp at hr; subst hr; exact ⟨hn, hB⟩) hT (Rd.box (css := [encR ⟨ao, cp, xs⟩]) hB10 rfl (by simp [encR])) (by intro r hr; simp at hr; subst hr; exact hR.mono (fun _ _ _ => trivial))) Tryd.call41 (fun v11 w12 hk13 hv14 => ?_)) rfl
  have hl_b5_w12 := hB10.lt
  have hs_w12 := hK.size
  rw [show rowsX [⟨ao, cp, xs⟩] = xs by simp [rowsX]] at hv14; subst hv14
  replace hK := hK.trans (Kp.ext hk13)
  replace hB10 := hB10.ext hk13
  replace hT := hT.ext hk13
  replace hR := hR.ext hk13
  replace hO := own_kp hO hk13 (fun _ _ _ x => x)
  refine rl (o_convI (a := crcOf xs) rfl ⟨_, Tryd.underlying90⟩ Tryd.underlying36 (by show (0 : Int) ≤ _; omega) (by show _ ≤ (18446744073709551615 : Int); omega) ?_) rfl
  refine rl (o_buildSlice (vs := [.int .u64 (crcOf xs)]) (n := 1) rfl Tryd.underlying83 elt36 rfl rfl (Nat.le_of_ble_eq_true rfl) (fun b15 w16 hb17 hz18 hk19 hB20 => ?_)) rfl
  replace hB20 : Box w16 b15 [.int .u64 (crcOf xs)] 36 := hB20
  have hs_b15 := hK.size
  have hl_b5_b15 := hB10.lt
  replace hK := hK.trans (Kp.ext hk19)
  replace hB10 := hB10.ext hk19
  replace hT := hT.ext hk19
  replace hR := hR.ext hk19
  replace hO := own_kp hO hk19 (fun _ _ _ x => x)
  refine rl (o_call (put_ok 4 _ _ [crcOf xs] _ _ rfl (by decide) (by intro q hq; simp at hq; subst hq; omega) (by decide) (Rd.box (css := [[.int .u64 (crcOf xs)]]) hB20 rfl (by simp))) Tryd.call28 (fun v21 w22 hk23 hv24 => ?_)) rfl
  have hl_b5_w22 := hB10.lt
  have hl_b15_w22 := hB20.lt
  have hs_w22 := hK.size
  obtain ⟨n3, ao3, c3, rfl, hn3, hO3⟩ := hv24
  replace hK := hK.trans (Kp.ext hk23)
  replace hB10 := hB10.ext hk23
  replace hB20 := hB20.ext hk23
  replace hT := hT.ext hk23
  replace hR := hR.ext hk23
  replace hO := own_kp hO hk23 (fun _ _ _ x => x)
  have hP := Rd.of_ownF hO3 (fun _ => rfl) hn3
  clear hO3
  have hn3b : n3 = 4 := by simpa [leB_length] using hn3
  refine rl (o_appendR (css := ([crcOf xs].flatMap (leB 4)).map encB) rfl rfl Tryd.underlying24 elt5 hO hP (one_map (fun _ => rfl)) (by omega) (by omega) (by have := hK.size; omega) (fun ao25 c26 w27 hk28 hO29 => ?_)) rfl
  replace hK := hK.later hk28 (fun i hi hS => by have := (own_lt hO i hS).1; omega)
  replace hB10 := hB10.grown hO (by decide) hk28
  replace hB20 := hB20.grown hO (by decide) hk28
  replace hT := hT.kp hk28 (fun h => by have := (own_lt hO 0 h).1; omega)
  replace hR := hR.kp hk28 (fun i _ hF hS => by have h1 : i < w.heap.size := hF; have h2 := (own_lt hO i hS).1; omega)
  clear hP
  have hOn : w27.ownsRow w.heap.size 5 1 (.slice ao25 (n1 + n3) c26) (n1 + n3) ((sealB crcOf xs).flatMap encB) := by simpa [List.flatMap_def, sealB] using hO29
  have hO := hOn; clear hOn
  refine rl (o_assign (v := .slice ao25 (n1 + n3) c26) rfl ?_) rfl
  refine rl_nil ?_
  refine cw_ret ?_
  refine ret_intro (v := .slice ao25 (n1 + n3) c26) (res_ok (vs := [.slice ao25 (n1 + n3) c26]) rfl ⟨rfl, trivial⟩) hK ?_
  exact ⟨_, _, _, rfl, by simp [sealB, leB_length]; omega, hO⟩

theorem open_ok {F : Nat → Prop} (ao : Option Addr) (cp : Nat) (xs : List Int) (n0 : Nat) (w : World) (hl_n0 : n0 = xs.length) (hn : n0 ≤ 100000000) (hB : isB xs) (hT : Tab w) (hR : Rd F w 1 (.slice ao n0 cp) (xs.map encB)) :
    Calls Tryd.prog 36 #[.slice ao n0 cp] w (Ret Non w fun v w' => ∃ (n : Nat) (ao2 : Option Addr) (c2 : Nat), v = .tuple #[.slice ao2 n c2, .bool (opn crcOf xs).isSome] ∧ n = ((opn crcOf xs).getD []).length ∧ Rd (fun b => w.heap.size ≤ b) w' 1 (.slice ao2 n c2) (((opn crcOf xs).getD []).map encB)) := by
  have hK := Kp.refl Non w
  subst hl_n0
  replace hR := hR.old
  have h00 := hT.1
  have htk : (((xs.length : Nat) : Int) - 4).toNat = xs.length - 4 := by omega
  refine calls_cw Tryd.func36 rfl (Nat.le_of_ble_eq_true rfl) ?_
  refine cw_reg rfl ?_
  refine rl (o_assign (v := .slice none 0 0) rfl ?_) rfl
  refine rl (o_assign (v := .bool (false)) rfl ?_) rfl
  refine rl_nil ?_
  refine cw_reg rfl ?_
  refine rl (o_move (v := .slice ao xs.length cp) rfl ?_) rfl
  refine rl (o_len rfl Tryd.underlying24 ?_) rfl
  refine rl (o_sub64 (a := ((xs.length : Nat) : Int)) (b := 4) rfl rfl (by omega) (by omega) ?_) rfl
  refine rl (o_assign (v := .int .i64 (((xs.length : Nat) : Int) - 4)) rfl ?_) rfl
  refine rl_nil ?_
  refine cw_seq ?_
  refine cw_reg rfl ?_
  refine rl (o_move (v := .int .i64 (((xs.length : Nat) : Int) - 4)) rfl ?_) rfl
  refine rl (o_lss rfl rfl ?_) rfl
  refine rl (o_move (v := .bool (decide (((xs.length : Nat) : Int) - 4 < 0))) rfl ?_) rfl
  by_cases h1 : ((xs.length : Nat) : Int) - 4 < 0
  · skip
    refine rlo ?_ (want_f rfl (decide_eq_true h1) (by decide))
    refine rlo ?_ (want_f rfl (decide_eq_true h1) (by decide))
    refine rlo ?_ (want_f rfl (decide_eq_true h1) (by decide))
    refine rlo ?_ (want_f rfl (decide_eq_true h1) (by decide))
    refine rlo ?_ (want_f rfl (decide_eq_true h1) (by decide))
    refine rlo ?_ (want_f rfl (decide_eq_true h1) (by decide))
    refine rlo ?_ (want_f rfl (decide_eq_true h1) (by decide))
    refine rl (o_pickT (v := .bool (true)) rfl (decide_eq_true h1) rfl ?_) rfl
    refine rl_nil ?_
    refine cw_condT rfl ?_
    refine cw_reg rfl ?_
    refine rl (o_assign (v := .slice none 0 0) rfl ?_) rfl
    refine rl (o_assign (v := .bool (false)) rfl ?_) rfl
    refine rl_nil ?_
    refine cw_ret ?_
    refine k_tr ?_
    refine ret_intro (v := .tuple #[.slice none 0 0, .bool (false)]) (res_ok (vs := [.slice none 0 0, .bool (false)]) rfl ⟨rfl, rfl, trivial⟩) hK ?_
    have hop : opn crcOf xs = none := by
      unfold opn
      rw [← htk]
      split
      · rfl
      · first | rfl | (rw [if_neg (by assumption)]) | (exfalso; omega)
    exact ⟨0, none, 0, by rw [hop]; rfl, by rw [hop]; rfl, by rw [hop]; exact Rd.nil _ _⟩
  · skip
    refine rl (o_move (v := .slice ao xs.length cp) rfl ?_) (want_t rfl (decide_eq_false h1))
    refine rl (o_move (v := .int .i64 (((xs.length : Nat) : Int) - 4)) rfl ?_) (want_t rfl (decide_eq_false h1))
    refine rl (o_sliceTo (i := ((xs.length : Nat) : Int) - 4) rfl rfl Tryd.underlying24 Tryd.sizeOf5 hR (by omega) (by simp only [List.length_map]; omega) (fun aos cs hQ => ?_)) (want_t rfl (decide_eq_false h1))
    replace hQ : Rd (fun b => b < w.heap.size) w 1 (.slice aos ((((xs.length : Nat) : Int) - 4).toNat) cs) ((xs.take (((xs.length : Nat) : Int) - 4).toNat).map encB) := by first | exact hQ | (simp only [← List.map_drop, ← List.map_take] at hQ; exact hQ)
    refine rl (o_call (sealb_ok _ _ (xs.take (((xs.length : Nat) : Int) - 4).toNat) _ _ (by simp; omega) (by simp; omega) (fun z hz => hB z (List.mem_of_mem_take hz)) hT hQ) Tryd.call29 (fun v2 w3 hk4 hv5 => ?_)) (want_t rfl (decide_eq_false h1))
    have hs_w3 := hK.size
    obtain ⟨n2, ao2, c2, rfl, hn2, hO2⟩ := hv5
    replace hK := hK.trans (Kp.ext hk4)
    replace hT := hT.ext hk4
    replace hR := hR.ext hk4
    replace hQ := hQ.ext hk4
    have hS := Rd.of_ownF hO2 (fun _ => rfl) hn2
    clear hO2
    have hn2b : n2 ≤ 1000000000 := by rw [hn2]; simp [sealB, leB_length]; omega
    refine rl (o_move (v := .slice ao xs.length cp) rfl ?_) (want_t rfl (decide_eq_false h1))
    refine rl (o_call (equal_ok _ _ _ _ (sealB crcOf (xs.take (((xs.length : Nat) : Int) - 4).toNat)) xs _ _ _ rfl hn2 (hn2 ▸ hn2b) (by omega) hS hR) Tryd.call44 (fun v6 w7 hk8 hv9 => ?_)) (want_t rfl (decide_eq_false h1))
    have hs_w7 := hK.size
    obtain rfl := hv9
    replace hK := hK.trans (Kp.ext hk8)
    replace hT := hT.ext hk8
    replace hR := hR.ext hk8
    replace hQ := hQ.ext hk8
    replace hS := hS.ext hk8
    refine rl (o_notD (q := sealB crcOf (xs.take (((xs.length : Nat) : Int) - 4).toNat) = xs) rfl ?_) (want_t rfl (decide_eq_false h1))
    refine rl (o_pickF (v := .bool (decide (¬ (sealB crcOf (xs.take (((xs.length : Nat) : Int) - 4).toNat) = xs)))) rfl (decide_eq_false h1) rfl ?_) rfl
    refine rl_nil ?_
    refine cw_if rfl (fun h10 => ?_) (fun h10 => ?_)
    · skip
      refine cw_reg rfl ?_
      refine rl (o_assign (v := .slice none 0 0) rfl ?_) rfl
      refine rl (o_assign (v := .bool (false)) rfl ?_) rfl
      refine rl_nil ?_
      refine cw_ret ?_
      refine k_tr ?_
      refine ret_intro (v := .tuple #[.slice none 0 0, .bool (false)]) (res_ok (vs := [.slice none 0 0, .bool (false)]) rfl ⟨rfl, rfl, trivial⟩) hK ?_
      have hop : opn crcOf xs = none := by
        unfold opn
        rw [← htk]
        split
        · rfl
        · first | rfl | (rw [if_neg (by assumption)]) | (exfalso; omega)
      exact ⟨0, none, 0, by rw [hop]; rfl, by rw [hop]; rfl, by rw [hop]; exact Rd.nil _ _⟩
    · skip
      refine cw_skip ?_
      refine k_tn ?_
      refine cw_reg rfl ?_
      refine rl (o_move (v := .slice ao xs.length cp) rfl ?_) rfl
      refine rl (o_move (v := .int .i64 (((xs.length : Nat) : Int) - 4)) rfl ?_) rfl
      refine rl (o_sliceTo (i := ((xs.length : Nat) : Int) - 4) rfl rfl Tryd.underlying24 Tryd.sizeOf5 hR (by omega) (by simp only [List.length_map]; omega) (fun aos2 cs2 hQ2 => ?_)) rfl
      replace hQ2 : Rd (fun b => b < w.heap.size) w7 1 (.slice aos2 ((((xs.length : Nat) : Int) - 4).toNat) cs2) ((xs.take (((xs.length : Nat) : Int) - 4).toNat).map encB) := by first | exact hQ2 | (simp only [← List.map_drop, ← List.map_take] at hQ2; exact hQ2)
      refine rl (o_call (clone_ok _ _ (xs.take (((xs.length : Nat) : Int) - 4).toNat) _ _ (by simp; omega) (by simp; omega) hQ2) Tryd.call22 (fun v11 w12 hk13 hv14 => ?_)) rfl
      have hs_w12 := hK.size
      obtain ⟨n4, ao4, c4, rfl, hn4, hO4⟩ := hv14
      replace hK := hK.trans (Kp.ext hk13)
      replace hT := hT.ext hk13
      replace hR := hR.ext hk13
      replace hQ := hQ.ext hk13
      replace hS := hS.ext hk13
      replace hQ2 := hQ2.ext hk13
      refine rl (o_assign (v := .slice ao4 n4 c4) rfl ?_) rfl
      refine rl (o_assign (v := .bool (true)) rfl ?_) rfl
      refine rl_nil ?_
      refine cw_ret ?_
      refine ret_intro (v := .tuple #[.slice ao4 n4 c4, .bool (true)]) (res_ok (vs := [.slice ao4 n4 c4, .bool (true)]) rfl ⟨rfl, rfl, trivial⟩) hK ?_
      have hop : opn crcOf xs = some (xs.take (((xs.length : Nat) : Int) - 4).toNat) := by
        unfold opn
        rw [← htk, if_neg (by omega), if_pos (Decidable.not_not.1 (by assumption))]
      exact ⟨n4, ao4, c4, by rw [hop]; rfl, by rw [hop]; exact hn4, by rw [hop]; exact (Rd.of_ownF hO4 (fun _ => rfl) hn4).mono (fun b _ h => Nat.le_trans (by assumption) h)⟩
end Go.Proofs.YtcmlklnelipacaaDoor

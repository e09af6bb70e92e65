import Derived.Test.YtcmlklnelipacaaDoorJou
import Derived.Test.YtcmlklnelipacaaDoorLogH
set_option linter.unusedVariables false
set_option linter.unusedSimpArgs false
set_option maxRecDepth 100000
namespace Go.Proofs.YtcmlklnelipacaaDoor
open Go.RowKit Plain
theorem bt32 : StructTy Tryd.prog 32 [.int .i64 (0), .int .i64 (0), .int .i64 (0), .slice none 0 0] #[(0, 1), (1, 1), (2, 1), (3, 1)] := ⟨Tryd.zeroValue32, ⟨_, Tryd.underlying32, fun w => by simp [Tryd.sizeOf3, Tryd.sizeOf30]⟩⟩
theorem elt3 : Elt Tryd.prog 3 (.int .i64 (0)) 1 8 := elt_mk (by kernel_rfl) rfl (by decide)
theorem elt57 : Elt Tryd.prog 57 (.agg #[.int .i64 (0), .int .i64 (0)]) 2 16 := elt_mk (by kernel_rfl) rfl (by decide)
theorem Rd.getF {α : Type} {F : Nat → Prop} {w : World} {k n c : Nat} {ao : Option Addr} {xs : List α} {f : α → List Value} (h : Rd F w k (.slice ao n c) (xs.map f)) (i : Nat) (hi : i < xs.length) :
    ∃ b o x, ao = some ⟨b, o, none⟩ ∧ xs[i]? = some x ∧ At w ⟨b, o + i * k, none⟩ (f x) ∧ b < w.heap.size ∧ F b := by
  obtain ⟨ao0, c0, hv, hc, hl, hcs⟩ := h
  injection hv with e1 e2 e3
  subst e1
  obtain ⟨b, o, ha, hb, hF, hat⟩ := hcs (by intro he; have := congrArg List.length he; simp at this; subst this; simp at hi)
  exact ⟨b, o, xs[i], ha, by simp [hi], hat i (f xs[i]) (by simp [hi]), hb, hF⟩
theorem Tab.turn {B : Nat} {W W' : World} (h : Tab W) (t : Turn B W W') : Tab W' := ⟨Nat.lt_of_lt_of_le h.1 t.size, h.2.turn t⟩
theorem part_len : ∀ (k : Nat) (xs : List Int) (rs : List (List Int)), Plain.part k xs = some rs → ∀ r ∈ rs, r.length ≤ xs.length := by
  intro k
  induction k with
  | zero => intro xs rs h; cases h
  | succ k ih =>
    intro xs rs h r hr
    match xs, h with
    | [], h => simp [Plain.part] at h; subst h; cases hr
    | [_], h => simp [Plain.part] at h
    | x :: y :: t, h =>
      simp only [Plain.part] at h
      split at h
      · cases h
      · cases hp : Plain.part k (t.drop (x + y * 256).toNat) with
        | none => rw [hp] at h; cases h
        | some rs' =>
          rw [hp] at h
          simp at h
          subst h
          rcases List.mem_cons.1 hr with rfl | hr
          · simp; omega
          · have := ih _ _ hp r hr
            simp at this ⊢; omega
theorem opn_some {xs ds : List Int} (h : opn crcOf xs = some ds) : ds = xs.take (xs.length - 4) := by
  unfold opn at h
  split at h
  · cases h
  · split at h
    · exact (Option.some.inj h).symm
    · cases h
theorem jget_none1 {xs : List Int} (h : opn crcOf xs = none) : jget crcOf xs = (.zero, 0, 12) := by unfold jget; rw [h]
theorem jget_none2 {xs ds : List Int} (h : opn crcOf xs = some ds) (h2 : Plain.part (ds.length + 1) ds = none) : jget crcOf xs = (.zero, 0, 10) := by unfold jget; rw [h]; simp only []; rw [h2]
theorem jget_form {xs ds r0 r1 r2 : List Int} (h : opn crcOf xs = some ds) (h2 : Plain.part (ds.length + 1) ds = some [r0, r1, r2]) (h3 : r0.length = 8 ∧ r1.length = 8 ∧ r2.length % 8 = 0) :
    jget crcOf xs = if check ⟨(nums 4 r1).getD 0 0, (nums 4 r1).getD 1 0, 0, pairs (nums 4 r2)⟩ then (⟨(nums 4 r1).getD 0 0, (nums 4 r1).getD 1 0, 0, pairs (nums 4 r2)⟩, (nums 8 r0).getD 0 0, 0) else (.zero, 0, 11) := by
  unfold jget; rw [h]; simp only []; rw [h2]; simp only []; rw [if_pos h3]
theorem jget_bad {xs ds : List Int} {rows : List Row} (h : opn crcOf xs = some ds) (h2 : Plain.part (ds.length + 1) ds = some (rows.map (·.xs))) (h3 : ∀ q0 q1 q2, rows = [q0, q1, q2] → ¬ (q0.xs.length = 8 ∧ q1.xs.length = 8 ∧ q2.xs.length % 8 = 0)) : jget crcOf xs = (.zero, 0, 11) := by
  unfold jget; rw [h]; simp only []; rw [h2]
  match rows, h3 with
  | [], _ => rfl
  | [_], _ => rfl
  | [_, _], _ => rfl
  | [q0, q1, q2], h3 => simp only [List.map_cons, List.map_nil]; rw [if_neg (h3 _ _ _ rfl)]
  | _ :: _ :: _ :: _ :: _, _ => rfl
theorem errOf_some {o : Option (List (List Int))} (h : ¬ errOf o ≠ 0) : ∃ rs, o = some rs := by
  cases o with
  | none => exact absurd (show errOf none ≠ 0 by decide) h
  | some rs => exact ⟨rs, rfl⟩
theorem errOf_none {o : Option (List (List Int))} (h : errOf o ≠ 0) : o = none := by
  cases o with
  | none => rfl
  | some rs => exact absurd rfl h
theorem len3 {α : Type} {l : List α} (h : l.length = 3) : ∃ a b c, l = [a, b, c] := by
  match l, h with
  | [a, b, c], _ => exact ⟨a, b, c, rfl⟩
theorem isB_part : ∀ (k : Nat) (xs : List Int) (rs : List (List Int)), Plain.part k xs = some rs → isB xs → ∀ r ∈ rs, isB r := by
  intro k
  induction k with
  | zero => intro xs rs h; cases h
  | succ k ih =>
    intro xs rs h hB r hr
    match xs, h with
    | [], h => simp [Plain.part] at h; subst h; cases hr
    | [_], h => simp [Plain.part] at h
    | x :: y :: t, h =>
      simp only [Plain.part] at h
      split at h
      · cases h
      · cases hp : Plain.part k (t.drop (x + y * 256).toNat) with
        | none => rw [hp] at h; cases h
        | some rs' =>
          rw [hp] at h
          simp at h
          subst h
          have ht : isB t := fun z hz => hB z (by simp [hz])
          rcases List.mem_cons.1 hr with rfl | hr
          · exact isB_take ht _
          · exact ih _ _ hp (fun z hz => ht z (List.mem_of_mem_drop hz)) r hr
theorem chunks_len {n : Nat} (hn : 0 < n) : ∀ (k m : Nat) (b : List Int), b.length = n * m → m < k → (chunks n k b).length = m := by
  intro k
  induction k with
  | zero => intro m b _ h; omega
  | succ k ih =>
    intro m b hb hm
    cases m with
    | zero => have : b = [] := List.length_eq_zero_iff.1 (by omega); subst this; rfl
    | succ m =>
      rw [Nat.mul_succ] at hb
      have hne : b ≠ [] := by intro h; subst h; simp at hb; omega
      rw [chunks_step hne, List.length_cons, ih m _ (by simp; omega) (by omega)]
theorem nums_len {n m : Nat} (hn : 0 < n) {b : List Int} (hb : b.length = n * m) : (nums n b).length = m := by
  unfold nums
  rw [List.length_map]
  exact chunks_len hn _ m b hb (by have : m ≤ n * m := Nat.le_mul_of_pos_left m hn
                                   omega)
theorem chunks_mem {n : Nat} : ∀ (k : Nat) (b : List Int), ∀ c ∈ chunks n k b, c.length ≤ n ∧ ∀ z ∈ c, z ∈ b := by
  intro k
  induction k with
  | zero => intro b c h; cases h
  | succ k ih =>
    intro b c h
    by_cases hb : b = []
    · subst hb; cases h
    · rw [chunks_step hb] at h
      rcases List.mem_cons.1 h with rfl | h
      · exact ⟨by simp; omega, fun z hz => List.mem_of_mem_take hz⟩
      · exact ⟨(ih _ c h).1, fun z hz => List.mem_of_mem_drop ((ih _ c h).2 z hz)⟩
theorem nums_bound {n : Nat} {b : List Int} (hB : isB b) : ∀ x ∈ nums n b, 0 ≤ x ∧ x < ((256 ^ n : Nat) : Int) := by
  intro x hx
  obtain ⟨c, hc, rfl⟩ := List.mem_map.1 hx
  have h1 := chunks_mem _ _ c hc
  have h2 := leN_bound c (fun z hz => hB z (h1.2 z hz))
  have h3 : 256 ^ c.length ≤ 256 ^ n := Nat.pow_le_pow_right (by decide) h1.1
  omega
def prm (l : List Int) : Permit := ⟨l.getD 0 0, l.getD 1 0⟩
theorem pairs_chunks : ∀ (k m : Nat) (b : List Int), b.length = 2 * m → m < k → (chunks 2 k b).map prm = pairs b := by
  intro k
  induction k with
  | zero => intro m b _ h; omega
  | succ k ih =>
    intro m b hb hm
    match b, hb with
    | [], _ => rfl
    | [_], hb => simp at hb; omega
    | x :: y :: r, hb =>
      rw [chunks_step (by simp)]
      simp only [List.map_cons, pairs]
      rw [ih (m - 1) _ (by simp at hb ⊢; omega) (by simp at hb; omega)]
      rfl
theorem pairs_len : ∀ (m : Nat) (b : List Int), b.length = 2 * m → (pairs b).length = m := by
  intro m
  induction m with
  | zero => intro b hb; have : b = [] := List.length_eq_zero_iff.1 (by omega); subst this; rfl
  | succ m ih =>
    intro b hb
    match b, hb with
    | [], hb => simp at hb
    | [_], hb => simp at hb; omega
    | x :: y :: r, hb => simp only [pairs, List.length_cons]; rw [ih r (by simp at hb; omega)]
set_option maxHeartbeats 8000000 in
theorem jget_ok {F : Nat → Prop} (ao : Option Addr) (cp : Nat) (xs : List Int) (n0 : Nat) (w : World) (hl_n0 : n0 = xs.length) (hn : n0 ≤ 1000000) (hB : isB xs) (hT : Tab w) (hR : Rd F w 1 (.slice ao n0 cp) (xs.map encB)) :
    Calls Tryd.prog 27 #[.slice ao n0 cp] w (Ret Non w fun v w' => ∃ (n : Nat) (ao2 : Option Addr) (c2 : Nat), v = .tuple #[.agg #[.int .i64 (jget crcOf xs).1.budget, .int .i64 (jget crcOf xs).1.margin, .int .i64 (jget crcOf xs).1.credit, .slice ao2 n c2], .int .u64 (jget crcOf xs).2.1, .int .i64 (jget crcOf xs).2.2] ∧ n = (jget crcOf xs).1.l.length ∧ Rd (fun b => w.heap.size ≤ b) w' 2 (.slice ao2 n c2) ((jget crcOf xs).1.l.map encP)) := by
  have hK := Kp.refl Non w
  subst hl_n0
  replace hR := hR.old
  have h00 := hT.1
  refine calls_cw Tryd.func27 rfl (Nat.le_of_ble_eq_true rfl) ?_
  refine cw_seq ?_
  refine cw_region rfl ?_
  refine rl (o_alloc Tryd.zeroValue32 (fun b1 w2 hb3 hz4 hk5 hB6 => ?_)) rfl
  replace hB6 : Box w2 b1 [.int .i64 (0), .int .i64 (0), .int .i64 (0), .slice none 0 0] 32 := hB6
  have hs_b1 := hK.size
  replace hK := hK.trans (Kp.ext hk5)
  replace hT := hT.ext hk5
  replace hR := hR.ext hk5
  refine rl (o_assign (v := .int .u64 (0)) rfl ?_) rfl
  refine rl (o_assign (v := .int .i64 (0)) rfl ?_) rfl
  refine rl_nil ?_
  refine k_tn ?_
  refine cw_norm [(0, .slice ao xs.length cp), (2, .pointer (some ⟨b1, 0, none⟩))] ⟨rfl, rfl, trivial⟩ (fun ρn7 => ?_)
  refine cw_seq ?_
  refine cw_region rfl ?_
  refine rl (o_move (v := .slice ao xs.length cp) rfl ?_) rfl
  refine rl (o_call (open_ok ao cp xs _ _ rfl (by omega) hB hT hR) Tryd.call36 (fun v8 w9 hk10 hv11 => ?_)) rfl
  have hl_b1_w9 := hB6.lt
  have hs_w9 := hK.size
  obtain ⟨n1, ao1, c1, rfl, hn1, hC⟩ := hv11
  replace hK := hK.trans (Kp.ext hk10)
  replace hB6 := hB6.ext hk10
  replace hT := hT.ext hk10
  replace hR := hR.ext hk10
  refine rl (o_move (v := .tuple #[.slice ao1 n1 c1, .bool ((opn crcOf xs).isSome)]) rfl ?_) rfl
  refine rl (o_extract (vs := [.slice ao1 n1 c1, .bool ((opn crcOf xs).isSome)]) (v := .slice ao1 n1 c1) rfl rfl ?_) rfl
  refine rl (o_extract (vs := [.slice ao1 n1 c1, .bool ((opn crcOf xs).isSome)]) (v := .bool ((opn crcOf xs).isSome)) rfl rfl ?_) rfl
  refine rl (o_assign (v := .slice ao1 n1 c1) rfl ?_) rfl
  refine rl (o_assign (v := .bool ((opn crcOf xs).isSome)) rfl ?_) rfl
  refine rl_nil ?_
  refine k_tn ?_
  refine cw_norm [(0, .slice ao1 n1 c1), (2, .pointer (some ⟨b1, 0, none⟩)), (5, .bool ((opn crcOf xs).isSome))] ⟨rfl, rfl, rfl, trivial⟩ (fun ρn12 => ?_)
  refine cw_seq ?_
  refine cw_seq ?_
  refine cw_region rfl ?_
  refine rl (o_move (v := .bool ((opn crcOf xs).isSome)) rfl ?_) rfl
  refine rl (o_not rfl ?_) rfl
  refine rl_nil ?_
  refine k_tn ?_
  refine cw_norm [(0, .slice ao1 n1 c1), (2, .pointer (some ⟨b1, 0, none⟩)), (19, .bool (!((opn crcOf xs).isSome)))] ⟨rfl, rfl, rfl, trivial⟩ (fun ρn13 => ?_)
  refine cw_cond rfl (fun h14 => ?_) (fun h14 => ?_)
  · skip
    refine cw_reg rfl ?_
    refine rl (o_build (cs := [.int .i64 (0), .int .i64 (0), .int .i64 (0), .slice none 0 0]) bt32 rfl ?_) rfl
    refine rl0 (o_storeA (vs := [.int .i64 (0), .int .i64 (0), .int .i64 (0), .slice none 0 0]) rfl rfl hB6 tyA32 rfl rfl (Nat.le_of_ble_eq_true rfl) (fun w15 hk16 hz17 hB18 => ?_)) rfl
    replace hB18 : Box w15 b1 [.int .i64 (0), .int .i64 (0), .int .i64 (0), .slice none 0 0] 32 := hB18
    replace hK := hK.later hk16 (fun i hi hS => by have h1 : i = b1 := hS; omega)
    replace hT := hT.kp hk16 (fun h => by have h2 : (0 : Nat) = b1 := h; omega)
    replace hR := hR.kp hk16 (fun i _ hF hS => by have h1 : i < w.heap.size := hF; have h2 : i = b1 := hS; omega)
    replace hC := hC.kp hk16 (fun i _ hF hS => by have h1 : w2.heap.size ≤ i := hF; have h2 : i = b1 := hS; omega)
    replace hB6 := hB18
    refine rl (o_assign (v := .int .u64 (0)) rfl ?_) rfl
    refine rl (o_assign (v := .int .i64 (12)) rfl ?_) rfl
    refine rl_nil ?_
    refine cw_ret ?_
    refine k_tr ?_
    refine ret_intro (v := .tuple #[.agg #[.int .i64 (0), .int .i64 (0), .int .i64 (0), .slice none 0 0], .int .u64 (0), .int .i64 (12)]) (res_ok (vs := [.agg #[.int .i64 (0), .int .i64 (0), .int .i64 (0), .slice none 0 0], .int .u64 (0), .int .i64 (12)]) rfl ⟨⟨_, rfl, run_loadA tyA32 rfl (hB6.at_ 0 4)⟩, rfl, rfl, trivial⟩) hK ?_
    rw [jget_none1 (by simp_all)]; exact ⟨0, none, 0, rfl, rfl, Rd.nil _ _⟩
  · skip
    obtain ⟨ds, hds⟩ : ∃ ds, opn crcOf xs = some ds := Option.isSome_iff_exists.1 (by simp_all)
    rw [hds] at hC hn1
    replace hC : Rd _ _ 1 (.slice ao1 n1 c1) (ds.map encB) := hC
    replace hn1 : n1 = ds.length := hn1
    have hdt := opn_some hds
    have hBd : isB ds := hdt ▸ isB_take hB _
    have hdl : ds.length ≤ xs.length := by rw [hdt]; simp
    refine cw_skip ?_
    refine k_tn ?_
    refine cw_norm [(0, .slice ao1 n1 c1), (2, .pointer (some ⟨b1, 0, none⟩))] ⟨rfl, rfl, trivial⟩ (fun ρn19 => ?_)
    refine cw_seq ?_
    refine cw_region rfl ?_
    refine rl (o_move (v := .slice ao1 n1 c1) rfl ?_) rfl
    refine rl (o_call (part_ok ao1 c1 ds _ _ hn1 (by omega) hBd hC) Tryd.call37 (fun v20 w21 hk22 hv23 => ?_)) rfl
    have hl_b1_w21 := hB6.lt
    have hs_w21 := hK.size
    obtain ⟨rows, n5, ao5, c5, rfl, hn5, hrs, hR5, hRr⟩ := hv23
    replace hK := hK.trans (Kp.ext hk22)
    replace hB6 := hB6.ext hk22
    replace hT := hT.ext hk22
    replace hR := hR.ext hk22
    replace hC := hC.ext hk22
    replace hR5 := hR5.mono (G := fun b => w9.heap.size ≤ b ∧ b < w21.heap.size) (fun b hb h => ⟨h, hb⟩)
    have hTr_w21 := Kp.refl (fun _ => True) w21
    refine rl (o_move (v := .tuple #[.slice ao5 n5 c5, .int .i64 (errOf (Plain.part (ds.length + 1) ds))]) rfl ?_) rfl
    refine rl (o_extract (vs := [.slice ao5 n5 c5, .int .i64 (errOf (Plain.part (ds.length + 1) ds))]) (v := .slice ao5 n5 c5) rfl rfl ?_) rfl
    refine rl (o_extract (vs := [.slice ao5 n5 c5, .int .i64 (errOf (Plain.part (ds.length + 1) ds))]) (v := .int .i64 (errOf (Plain.part (ds.length + 1) ds))) rfl rfl ?_) rfl
    refine rl (o_assign (v := .slice ao5 n5 c5) rfl ?_) rfl
    refine rl (o_assign (v := .int .i64 (errOf (Plain.part (ds.length + 1) ds))) rfl ?_) rfl
    refine rl_nil ?_
    refine k_tn ?_
    refine cw_norm [(2, .pointer (some ⟨b1, 0, none⟩)), (6, .slice ao5 n5 c5), (7, .int .i64 (errOf (Plain.part (ds.length + 1) ds)))] ⟨rfl, rfl, rfl, trivial⟩ (fun ρn24 => ?_)
    refine cw_seq ?_
    refine cw_seq ?_
    refine cw_region rfl ?_
    refine rl (o_move (v := .int .i64 (errOf (Plain.part (ds.length + 1) ds))) rfl ?_) rfl
    refine rl (o_neq rfl rfl ?_) rfl
    refine rl_nil ?_
    refine k_tn ?_
    refine cw_norm [(2, .pointer (some ⟨b1, 0, none⟩)), (6, .slice ao5 n5 c5), (7, .int .i64 (errOf (Plain.part (ds.length + 1) ds))), (27, .bool (decide (errOf (Plain.part (ds.length + 1) ds) ≠ 0)))] ⟨rfl, rfl, rfl, rfl, trivial⟩ (fun ρn25 => ?_)
    refine cw_if rfl (fun h26 => ?_) (fun h26 => ?_)
    · skip
      refine cw_reg rfl ?_
      refine rl (o_build (cs := [.int .i64 (0), .int .i64 (0), .int .i64 (0), .slice none 0 0]) bt32 rfl ?_) rfl
      refine rl (o_move (v := .int .i64 (errOf (Plain.part (ds.length + 1) ds))) rfl ?_) rfl
      refine rl0 (o_storeA (vs := [.int .i64 (0), .int .i64 (0), .int .i64 (0), .slice none 0 0]) rfl rfl hB6 tyA32 rfl rfl (Nat.le_of_ble_eq_true rfl) (fun w27 hk28 hz29 hB30 => ?_)) rfl
      replace hB30 : Box w27 b1 [.int .i64 (0), .int .i64 (0), .int .i64 (0), .slice none 0 0] 32 := hB30
      replace hK := hK.later hk28 (fun i hi hS => by have h1 : i = b1 := hS; omega)
      replace hT := hT.kp hk28 (fun h => by have h2 : (0 : Nat) = b1 := h; omega)
      replace hR := hR.kp hk28 (fun i _ hF hS => by have h1 : i < w.heap.size := hF; have h2 : i = b1 := hS; omega)
      replace hC := hC.kp hk28 (fun i _ hF hS => by have h1 : w2.heap.size ≤ i := hF; have h2 : i = b1 := hS; omega)
      replace hR5 := hR5.kp hk28 (fun i _ hF hS => by have h1 : w9.heap.size ≤ i ∧ i < w21.heap.size := hF; have h2 : i = b1 := hS; omega)
      replace hTr_w21 := hTr_w21.trans (hk28.mono (fun _ _ _ => trivial))
      replace hB6 := hB30
      refine rl (o_assign (v := .int .u64 (0)) rfl ?_) rfl
      refine rl (o_assign (v := .int .i64 (errOf (Plain.part (ds.length + 1) ds))) rfl ?_) rfl
      refine rl_nil ?_
      refine cw_ret ?_
      refine k_tr ?_
      refine ret_intro (v := .tuple #[.agg #[.int .i64 (0), .int .i64 (0), .int .i64 (0), .slice none 0 0], .int .u64 (0), .int .i64 (errOf (Plain.part (ds.length + 1) ds))]) (res_ok (vs := [.agg #[.int .i64 (0), .int .i64 (0), .int .i64 (0), .slice none 0 0], .int .u64 (0), .int .i64 (errOf (Plain.part (ds.length + 1) ds))]) rfl ⟨⟨_, rfl, run_loadA tyA32 rfl (hB6.at_ 0 4)⟩, rfl, rfl, trivial⟩) hK ?_
      have hnn := errOf_none (by assumption)
      rw [hnn, jget_none2 hds hnn]; exact ⟨0, none, 0, rfl, rfl, Rd.nil _ _⟩
    · skip
      obtain ⟨rs, hps⟩ := errOf_some (by assumption)
      have hrm := hrs rs hps
      subst hrm
      refine cw_skip ?_
      refine k_tn ?_
      refine cw_norm [(2, .pointer (some ⟨b1, 0, none⟩)), (6, .slice ao5 n5 c5)] ⟨rfl, rfl, trivial⟩ (fun ρn31 => ?_)
      refine cw_seq ?_
      refine cw_seq ?_
      refine cw_region rfl ?_
      refine rl (o_move (v := .slice ao5 n5 c5) rfl ?_) rfl
      refine rl (o_len rfl Tryd.underlying33 ?_) rfl
      refine rl (o_neq rfl rfl ?_) rfl
      refine rl (o_move (v := .bool (decide (((n5 : Nat) : Int) ≠ 3))) rfl ?_) rfl
      by_cases h32 : ((n5 : Nat) : Int) ≠ 3
      · skip
        refine rlo ?_ (want_f rfl (decide_eq_true h32) (by decide))
        refine rlo ?_ (want_f rfl (decide_eq_true h32) (by decide))
        refine rlo ?_ (want_f rfl (decide_eq_true h32) (by decide))
        refine rlo ?_ (want_f rfl (decide_eq_true h32) (by decide))
        refine rlo ?_ (want_f rfl (decide_eq_true h32) (by decide))
        refine rl (o_pickT (v := .bool (true)) rfl (decide_eq_true h32) rfl ?_) rfl
        refine rl (o_move (v := .bool (true)) rfl ?_) rfl
        refine rlo ?_ (want_f rfl (rfl) (by decide))
        refine rlo ?_ (want_f rfl (rfl) (by decide))
        refine rlo ?_ (want_f rfl (rfl) (by decide))
        refine rlo ?_ (want_f rfl (rfl) (by decide))
        refine rlo ?_ (want_f rfl (rfl) (by decide))
        refine rl (o_pickT (v := .bool (true)) rfl (rfl) rfl ?_) rfl
        refine rl (o_move (v := .bool (true)) rfl ?_) rfl
        refine rlo ?_ (want_f rfl (rfl) (by decide))
        refine rlo ?_ (want_f rfl (rfl) (by decide))
        refine rlo ?_ (want_f rfl (rfl) (by decide))
        refine rlo ?_ (want_f rfl (rfl) (by decide))
        refine rlo ?_ (want_f rfl (rfl) (by decide))
        refine rlo ?_ (want_f rfl (rfl) (by decide))
        refine rl (o_pickT (v := .bool (true)) rfl (rfl) rfl ?_) rfl
        refine rl_nil ?_
        refine k_tn ?_
        refine cw_norm [(2, .pointer (some ⟨b1, 0, none⟩)), (6, .slice ao5 n5 c5), (54, .bool (true))] ⟨rfl, rfl, rfl, trivial⟩ (fun ρn33 => ?_)
        refine cw_condT rfl ?_
        refine cw_reg rfl ?_
        refine rl (o_build (cs := [.int .i64 (0), .int .i64 (0), .int .i64 (0), .slice none 0 0]) bt32 rfl ?_) rfl
        refine rl0 (o_storeA (vs := [.int .i64 (0), .int .i64 (0), .int .i64 (0), .slice none 0 0]) rfl rfl hB6 tyA32 rfl rfl (Nat.le_of_ble_eq_true rfl) (fun w34 hk35 hz36 hB37 => ?_)) rfl
        replace hB37 : Box w34 b1 [.int .i64 (0), .int .i64 (0), .int .i64 (0), .slice none 0 0] 32 := hB37
        replace hK := hK.later hk35 (fun i hi hS => by have h1 : i = b1 := hS; omega)
        replace hT := hT.kp hk35 (fun h => by have h2 : (0 : Nat) = b1 := h; omega)
        replace hR := hR.kp hk35 (fun i _ hF hS => by have h1 : i < w.heap.size := hF; have h2 : i = b1 := hS; omega)
        replace hC := hC.kp hk35 (fun i _ hF hS => by have h1 : w2.heap.size ≤ i := hF; have h2 : i = b1 := hS; omega)
        replace hR5 := hR5.kp hk35 (fun i _ hF hS => by have h1 : w9.heap.size ≤ i ∧ i < w21.heap.size := hF; have h2 : i = b1 := hS; omega)
        replace hTr_w21 := hTr_w21.trans (hk35.mono (fun _ _ _ => trivial))
        replace hB6 := hB37
        refine rl (o_assign (v := .int .u64 (0)) rfl ?_) rfl
        refine rl (o_assign (v := .int .i64 (11)) rfl ?_) rfl
        refine rl_nil ?_
        refine cw_ret ?_
        refine k_tr ?_
        refine ret_intro (v := .tuple #[.agg #[.int .i64 (0), .int .i64 (0), .int .i64 (0), .slice none 0 0], .int .u64 (0), .int .i64 (11)]) (res_ok (vs := [.agg #[.int .i64 (0), .int .i64 (0), .int .i64 (0), .slice none 0 0], .int .u64 (0), .int .i64 (11)]) rfl ⟨⟨_, rfl, run_loadA tyA32 rfl (hB6.at_ 0 4)⟩, rfl, rfl, trivial⟩) hK ?_
        rw [jget_bad hds hps (by rintro q0 q1 q2 rfl; simp at hn5; omega)]; exact ⟨0, none, 0, rfl, rfl, Rd.nil _ _⟩
      · skip
        refine rl (o_move (v := .slice ao5 n5 c5) rfl ?_) (want_t rfl (decide_eq_false h32))
        refine rl (o_idxM (i := 0) (f := encR) (xs := rows) rfl rfl Tryd.underlying33 Tryd.sizeOf24 hR5 (by omega) (by omega) (fun b38 o39 r0 hx41 hF42 hA43 => ?_)) (want_t rfl (decide_eq_false h32))
        have hr0 : rows[0]? = some r0 := by simpa using hx41
        refine rl (o_load (v := .slice r0.ao r0.xs.length r0.c) rfl tyS24 (hA43 0 _ rfl) ?_) (want_t rfl (decide_eq_false h32))
        refine rl (o_len rfl Tryd.underlying24 ?_) (want_t rfl (decide_eq_false h32))
        refine rl (o_neq rfl rfl ?_) (want_t rfl (decide_eq_false h32))
        refine rl (o_pickF (v := .bool (decide (((r0.xs.length : Nat) : Int) ≠ 8))) rfl (decide_eq_false h32) rfl ?_) rfl
        refine rl (o_move (v := .bool (decide (((r0.xs.length : Nat) : Int) ≠ 8))) rfl ?_) rfl
        by_cases h44 : ((r0.xs.length : Nat) : Int) ≠ 8
        · skip
          refine rlo ?_ (want_f rfl (decide_eq_true h44) (by decide))
          refine rlo ?_ (want_f rfl (decide_eq_true h44) (by decide))
          refine rlo ?_ (want_f rfl (decide_eq_true h44) (by decide))
          refine rlo ?_ (want_f rfl (decide_eq_true h44) (by decide))
          refine rlo ?_ (want_f rfl (decide_eq_true h44) (by decide))
          refine rl (o_pickT (v := .bool (true)) rfl (decide_eq_true h44) rfl ?_) rfl
          refine rl (o_move (v := .bool (true)) rfl ?_) rfl
          refine rlo ?_ (want_f rfl (rfl) (by decide))
          refine rlo ?_ (want_f rfl (rfl) (by decide))
          refine rlo ?_ (want_f rfl (rfl) (by decide))
          refine rlo ?_ (want_f rfl (rfl) (by decide))
          refine rlo ?_ (want_f rfl (rfl) (by decide))
          refine rlo ?_ (want_f rfl (rfl) (by decide))
          refine rl (o_pickT (v := .bool (true)) rfl (rfl) rfl ?_) rfl
          refine rl_nil ?_
          refine k_tn ?_
          refine cw_norm [(2, .pointer (some ⟨b1, 0, none⟩)), (6, .slice ao5 n5 c5), (54, .bool (true))] ⟨rfl, rfl, rfl, trivial⟩ (fun ρn45 => ?_)
          refine cw_condT rfl ?_
          refine cw_reg rfl ?_
          refine rl (o_build (cs := [.int .i64 (0), .int .i64 (0), .int .i64 (0), .slice none 0 0]) bt32 rfl ?_) rfl
          refine rl0 (o_storeA (vs := [.int .i64 (0), .int .i64 (0), .int .i64 (0), .slice none 0 0]) rfl rfl hB6 tyA32 rfl rfl (Nat.le_of_ble_eq_true rfl) (fun w46 hk47 hz48 hB49 => ?_)) rfl
          replace hB49 : Box w46 b1 [.int .i64 (0), .int .i64 (0), .int .i64 (0), .slice none 0 0] 32 := hB49
          replace hK := hK.later hk47 (fun i hi hS => by have h1 : i = b1 := hS; omega)
          replace hT := hT.kp hk47 (fun h => by have h2 : (0 : Nat) = b1 := h; omega)
          replace hR := hR.kp hk47 (fun i _ hF hS => by have h1 : i < w.heap.size := hF; have h2 : i = b1 := hS; omega)
          replace hC := hC.kp hk47 (fun i _ hF hS => by have h1 : w2.heap.size ≤ i := hF; have h2 : i = b1 := hS; omega)
          replace hR5 := hR5.kp hk47 (fun i _ hF hS => by have h1 : w9.heap.size ≤ i ∧ i < w21.heap.size := hF; have h2 : i = b1 := hS; omega)
          replace hTr_w21 := hTr_w21.trans (hk47.mono (fun _ _ _ => trivial))
          replace hB6 := hB49
          refine rl (o_assign (v := .int .u64 (0)) rfl ?_) rfl
          refine rl (o_assign (v := .int .i64 (11)) rfl ?_) rfl
          refine rl_nil ?_
          refine cw_ret ?_
          refine k_tr ?_
          refine ret_intro (v := .tuple #[.agg #[.int .i64 (0), .int .i64 (0), .int .i64 (0), .slice none 0 0], .int .u64 (0), .int .i64 (11)]) (res_ok (vs := [.agg #[.int .i64 (0), .int .i64 (0), .int .i64 (0), .slice none 0 0], .int .u64 (0), .int .i64 (11)]) rfl ⟨⟨_, rfl, run_loadA tyA32 rfl (hB6.at_ 0 4)⟩, rfl, rfl, trivial⟩) hK ?_
          rw [jget_bad hds hps (by rintro q0 q1 q2 rfl ⟨g1, g2, g3⟩; simp at hr0; subst hr0; omega)]; exact ⟨0, none, 0, rfl, rfl, Rd.nil _ _⟩
        · skip
          refine rl (o_move (v := .slice ao5 n5 c5) rfl ?_) (want_t rfl (decide_eq_false h44))
          refine rl (o_idxM (i := 1) (f := encR) (xs := rows) rfl rfl Tryd.underlying33 Tryd.sizeOf24 hR5 (by omega) (by omega) (fun b50 o51 r1 hx53 hF54 hA55 => ?_)) (want_t rfl (decide_eq_false h44))
          have hr1 : rows[1]? = some r1 := by simpa using hx53
          refine rl (o_load (v := .slice r1.ao r1.xs.length r1.c) rfl tyS24 (hA55 0 _ rfl) ?_) (want_t rfl (decide_eq_false h44))
          refine rl (o_len rfl Tryd.underlying24 ?_) (want_t rfl (decide_eq_false h44))
          refine rl (o_neq rfl rfl ?_) (want_t rfl (decide_eq_false h44))
          refine rl (o_pickF (v := .bool (decide (((r1.xs.length : Nat) : Int) ≠ 8))) rfl (decide_eq_false h44) rfl ?_) rfl
          refine rl (o_move (v := .bool (decide (((r1.xs.length : Nat) : Int) ≠ 8))) rfl ?_) rfl
          by_cases h56 : ((r1.xs.length : Nat) : Int) ≠ 8
          · skip
            refine rlo ?_ (want_f rfl (decide_eq_true h56) (by decide))
            refine rlo ?_ (want_f rfl (decide_eq_true h56) (by decide))
            refine rlo ?_ (want_f rfl (decide_eq_true h56) (by decide))
            refine rlo ?_ (want_f rfl (decide_eq_true h56) (by decide))
            refine rlo ?_ (want_f rfl (decide_eq_true h56) (by decide))
            refine rlo ?_ (want_f rfl (decide_eq_true h56) (by decide))
            refine rl (o_pickT (v := .bool (true)) rfl (decide_eq_true h56) rfl ?_) rfl
            refine rl_nil ?_
            refine k_tn ?_
            refine cw_norm [(2, .pointer (some ⟨b1, 0, none⟩)), (6, .slice ao5 n5 c5), (54, .bool (true))] ⟨rfl, rfl, rfl, trivial⟩ (fun ρn57 => ?_)
            refine cw_condT rfl ?_
            refine cw_reg rfl ?_
            refine rl (o_build (cs := [.int .i64 (0), .int .i64 (0), .int .i64 (0), .slice none 0 0]) bt32 rfl ?_) rfl
            refine rl0 (o_storeA (vs := [.int .i64 (0), .int .i64 (0), .int .i64 (0), .slice none 0 0]) rfl rfl hB6 tyA32 rfl rfl (Nat.le_of_ble_eq_true rfl) (fun w58 hk59 hz60 hB61 => ?_)) rfl
            replace hB61 : Box w58 b1 [.int .i64 (0), .int .i64 (0), .int .i64 (0), .slice none 0 0] 32 := hB61
            replace hK := hK.later hk59 (fun i hi hS => by have h1 : i = b1 := hS; omega)
            replace hT := hT.kp hk59 (fun h => by have h2 : (0 : Nat) = b1 := h; omega)
            replace hR := hR.kp hk59 (fun i _ hF hS => by have h1 : i < w.heap.size := hF; have h2 : i = b1 := hS; omega)
            replace hC := hC.kp hk59 (fun i _ hF hS => by have h1 : w2.heap.size ≤ i := hF; have h2 : i = b1 := hS; omega)
            replace hR5 := hR5.kp hk59 (fun i _ hF hS => by have h1 : w9.heap.size ≤ i ∧ i < w21.heap.size := hF; have h2 : i = b1 := hS; omega)
            replace hTr_w21 := hTr_w21.trans (hk59.mono (fun _ _ _ => trivial))
            replace hB6 := hB61
            refine rl (o_assign (v := .int .u64 (0)) rfl ?_) rfl
            refine rl (o_assign (v := .int .i64 (11)) rfl ?_) rfl
            refine rl_nil ?_
            refine cw_ret ?_
            refine k_tr ?_
            refine ret_intro (v := .tuple #[.agg #[.int .i64 (0), .int .i64 (0), .int .i64 (0), .slice none 0 0], .int .u64 (0), .int .i64 (11)]) (res_ok (vs := [.agg #[.int .i64 (0), .int .i64 (0), .int .i64 (0), .slice none 0 0], .int .u64 (0), .int .i64 (11)]) rfl ⟨⟨_, rfl, run_loadA tyA32 rfl (hB6.at_ 0 4)⟩, rfl, rfl, trivial⟩) hK ?_
            rw [jget_bad hds hps (by rintro q0 q1 q2 rfl ⟨g1, g2, g3⟩; simp at hr1; subst hr1; omega)]; exact ⟨0, none, 0, rfl, rfl, Rd.nil _ _⟩
          · skip
            refine rl (o_move (v := .slice ao5 n5 c5) rfl ?_) (want_t rfl (decide_eq_false h56))
            refine rl (o_idxM (i := 2) (f := encR) (xs := rows) rfl rfl Tryd.underlying33 Tryd.sizeOf24 hR5 (by omega) (by omega) (fun b62 o63 r2 hx65 hF66 hA67 => ?_)) (want_t rfl (decide_eq_false h56))
            have hr2 : rows[2]? = some r2 := by simpa using hx65
            refine rl (o_load (v := .slice r2.ao r2.xs.length r2.c) rfl tyS24 (hA67 0 _ rfl) ?_) (want_t rfl (decide_eq_false h56))
            refine rl (o_len rfl Tryd.underlying24 ?_) (want_t rfl (decide_eq_false h56))
            refine rl (o_rem rfl rfl (by decide) (by omega) ?_) (want_t rfl (decide_eq_false h56))
            refine rl (o_neq rfl rfl ?_) (want_t rfl (decide_eq_false h56))
            refine rl (o_pickF (v := .bool (decide (((r2.xs.length : Nat) : Int) % 8 ≠ 0))) rfl (decide_eq_false h56) rfl ?_) rfl
            refine rl_nil ?_
            refine k_tn ?_
            refine cw_norm [(2, .pointer (some ⟨b1, 0, none⟩)), (6, .slice ao5 n5 c5), (54, .bool (decide (((r2.xs.length : Nat) : Int) % 8 ≠ 0)))] ⟨rfl, rfl, rfl, trivial⟩ (fun ρn68 => ?_)
            refine cw_if rfl (fun h69 => ?_) (fun h69 => ?_)
            · skip
              refine cw_reg rfl ?_
              refine rl (o_build (cs := [.int .i64 (0), .int .i64 (0), .int .i64 (0), .slice none 0 0]) bt32 rfl ?_) rfl
              refine rl0 (o_storeA (vs := [.int .i64 (0), .int .i64 (0), .int .i64 (0), .slice none 0 0]) rfl rfl hB6 tyA32 rfl rfl (Nat.le_of_ble_eq_true rfl) (fun w70 hk71 hz72 hB73 => ?_)) rfl
              replace hB73 : Box w70 b1 [.int .i64 (0), .int .i64 (0), .int .i64 (0), .slice none 0 0] 32 := hB73
              replace hK := hK.later hk71 (fun i hi hS => by have h1 : i = b1 := hS; omega)
              replace hT := hT.kp hk71 (fun h => by have h2 : (0 : Nat) = b1 := h; omega)
              replace hR := hR.kp hk71 (fun i _ hF hS => by have h1 : i < w.heap.size := hF; have h2 : i = b1 := hS; omega)
              replace hC := hC.kp hk71 (fun i _ hF hS => by have h1 : w2.heap.size ≤ i := hF; have h2 : i = b1 := hS; omega)
              replace hR5 := hR5.kp hk71 (fun i _ hF hS => by have h1 : w9.heap.size ≤ i ∧ i < w21.heap.size := hF; have h2 : i = b1 := hS; omega)
              replace hTr_w21 := hTr_w21.trans (hk71.mono (fun _ _ _ => trivial))
              replace hB6 := hB73
              refine rl (o_assign (v := .int .u64 (0)) rfl ?_) rfl
              refine rl (o_assign (v := .int .i64 (11)) rfl ?_) rfl
              refine rl_nil ?_
              refine cw_ret ?_
              refine k_tr ?_
              refine ret_intro (v := .tuple #[.agg #[.int .i64 (0), .int .i64 (0), .int .i64 (0), .slice none 0 0], .int .u64 (0), .int .i64 (11)]) (res_ok (vs := [.agg #[.int .i64 (0), .int .i64 (0), .int .i64 (0), .slice none 0 0], .int .u64 (0), .int .i64 (11)]) rfl ⟨⟨_, rfl, run_loadA tyA32 rfl (hB6.at_ 0 4)⟩, rfl, rfl, trivial⟩) hK ?_
              rw [jget_bad hds hps (by rintro q0 q1 q2 rfl ⟨g1, g2, g3⟩; simp at hr2; subst hr2; omega)]; exact ⟨0, none, 0, rfl, rfl, Rd.nil _ _⟩
            · skip
              obtain ⟨q0, q1, q2, rfl⟩ := len3 (l := rows) (by omega)
              clear hC hR
              obtain rfl : q0 = r0 := by simpa using hr0
              obtain rfl : q1 = r1 := by simpa using hr1
              obtain rfl : q2 = r2 := by simpa using hr2
              have hl0 : q0.xs.length = 8 := by omega
              have hl1 : q1.xs.length = 8 := by omega
              have hl2 : q2.xs.length % 8 = 0 := by omega
              have hqb := isB_part _ _ _ hps hBd
              have hql := part_len _ _ _ hps
              have hq0 := (hRr q0 (by simp)).mono (G := fun b => w9.heap.size ≤ b ∧ b < w21.heap.size) (fun b hb h => ⟨h, hb⟩)
              have hb0 : isB q0.xs := hqb _ (by simp)
              have hll0 : q0.xs.length ≤ ds.length := hql _ (by simp)
              have hq1 := (hRr q1 (by simp)).mono (G := fun b => w9.heap.size ≤ b ∧ b < w21.heap.size) (fun b hb h => ⟨h, hb⟩)
              have hb1 : isB q1.xs := hqb _ (by simp)
              have hll1 : q1.xs.length ≤ ds.length := hql _ (by simp)
              have hq2 := (hRr q2 (by simp)).mono (G := fun b => w9.heap.size ≤ b ∧ b < w21.heap.size) (fun b hb h => ⟨h, hb⟩)
              have hb2 : isB q2.xs := hqb _ (by simp)
              have hll2 : q2.xs.length ≤ ds.length := hql _ (by simp)
              refine cw_skip ?_
              refine k_tn ?_
              refine cw_norm [(2, .pointer (some ⟨b1, 0, none⟩)), (6, .slice ao5 n5 c5)] ⟨rfl, rfl, trivial⟩ (fun ρn74 => ?_)
              refine cw_seq ?_
              refine cw_region rfl ?_
              refine rl (o_alloc Tryd.zeroValue84 (fun b75 w76 hb77 hz78 hk79 hB80 => ?_)) rfl
              replace hB80 : Box w76 b75 [.slice none 0 0, .slice none 0 0, .slice none 0 0] 84 := hB80
              have hs_b75 := hK.size
              have hl_b1_b75 := hB6.lt
              have ht_hTr_w21_b75 := hTr_w21.size
              replace hK := hK.trans (Kp.ext hk79)
              replace hB6 := hB6.ext hk79
              replace hT := hT.ext hk79
              replace hR5 := hR5.ext hk79
              replace hTr_w21 := hTr_w21.trans (Kp.ext hk79)
              replace hq0 := hq0.ext hk79
              replace hq1 := hq1.ext hk79
              replace hq2 := hq2.ext hk79
              replace hA43 := At.ext hA43 hk79
              replace hA55 := At.ext hA55 hk79
              replace hA67 := At.ext hA67 hk79
              refine rl_nil ?_
              refine k_tn ?_
              refine cw_norm [(2, .pointer (some ⟨b1, 0, none⟩)), (6, .slice ao5 n5 c5), (8, .pointer (some ⟨b75, 0, none⟩))] ⟨rfl, rfl, rfl, trivial⟩ (fun ρn81 => ?_)
              refine cw_seq ?_
              refine cw_seq ?_
              refine cw_region rfl ?_
              refine rl (o_buildSlice (vs := [.int .i64 (8), .int .i64 (4), .int .i64 (4)]) (n := 3) rfl Tryd.underlying51 elt3 rfl rfl (Nat.le_of_ble_eq_true rfl) (fun b82 w83 hb84 hz85 hk86 hB87 => ?_)) rfl
              replace hB87 : Box w83 b82 [.int .i64 (8), .int .i64 (4), .int .i64 (4)] 3 := hB87
              have hs_b82 := hK.size
              have hl_b1_b82 := hB6.lt
              have hl_b75_b82 := hB80.lt
              have ht_hTr_w21_b82 := hTr_w21.size
              replace hK := hK.trans (Kp.ext hk86)
              replace hB6 := hB6.ext hk86
              replace hB80 := hB80.ext hk86
              replace hT := hT.ext hk86
              replace hR5 := hR5.ext hk86
              replace hTr_w21 := hTr_w21.trans (Kp.ext hk86)
              replace hq0 := hq0.ext hk86
              replace hq1 := hq1.ext hk86
              replace hq2 := hq2.ext hk86
              replace hA43 := At.ext hA43 hk86
              replace hA55 := At.ext hA55 hk86
              replace hA67 := At.ext hA67 hk86
              refine rl (o_len rfl Tryd.underlying51 ?_) rfl
              refine rl (o_move (v := .int .i64 (0)) rfl ?_) rfl
              refine rl_nil ?_
              refine k_tn ?_
              refine cw_norm [(2, .pointer (some ⟨b1, 0, none⟩)), (6, .slice ao5 n5 c5), (8, .pointer (some ⟨b75, 0, none⟩)), (56, .slice ((some ⟨b82, 0, none⟩)) 3 3), (57, .int .i64 (3)), (58, .int .i64 (0))] ⟨rfl, rfl, rfl, rfl, rfl, rfl, trivial⟩ (fun ρn88 => ?_)
              refine cw_block ?_
              refine cw_unroll ?_
              refine cw_seq ?_
              refine cw_region rfl ?_
              refine rl (o_lss rfl rfl ?_) rfl
              refine rl_nil ?_
              refine k_tn ?_
              refine cw_norm [(2, .pointer (some ⟨b1, 0, none⟩)), (6, .slice ao5 n5 c5), (8, .pointer (some ⟨b75, 0, none⟩)), (56, .slice ((some ⟨b82, 0, none⟩)) 3 3), (57, .int .i64 (3)), (58, .int .i64 (0)), (59, .bool (true))] ⟨rfl, rfl, rfl, rfl, rfl, rfl, rfl, trivial⟩ (fun ρn89 => ?_)
              refine cw_seq ?_
              refine cw_condT rfl ?_
              refine cw_skip ?_
              refine k_tn ?_
              refine cw_norm [(2, .pointer (some ⟨b1, 0, none⟩)), (6, .slice ao5 n5 c5), (8, .pointer (some ⟨b75, 0, none⟩)), (56, .slice ((some ⟨b82, 0, none⟩)) 3 3), (57, .int .i64 (3)), (58, .int .i64 (0))] ⟨rfl, rfl, rfl, rfl, rfl, rfl, trivial⟩ (fun ρn90 => ?_)
              refine cw_seq ?_
              refine cw_block ?_
              refine cw_seq ?_
              refine cw_region rfl ?_
              refine rl (o_move (v := .int .i64 (0)) rfl ?_) rfl
              refine rl (o_idxAt 0 rfl rfl Tryd.underlying51 Tryd.sizeOf3 rfl rfl (by decide) ?_) rfl
              refine rl (o_loadB (v := .int .i64 (8)) rfl hB87 tyS3 rfl ?_) rfl
              refine rl (o_assign (v := .int .i64 (0)) rfl ?_) rfl
              refine rl (o_assign (v := .int .i64 (8)) rfl ?_) rfl
              refine rl_nil ?_
              refine k_tn ?_
              refine cw_norm [(2, .pointer (some ⟨b1, 0, none⟩)), (6, .slice ao5 n5 c5), (8, .pointer (some ⟨b75, 0, none⟩)), (9, .int .i64 (0)), (10, .int .i64 (8)), (56, .slice ((some ⟨b82, 0, none⟩)) 3 3), (57, .int .i64 (3)), (58, .int .i64 (0))] ⟨rfl, rfl, rfl, rfl, rfl, rfl, rfl, rfl, trivial⟩ (fun ρn91 => ?_)
              refine cw_region rfl ?_
              refine rl (o_move (v := .int .i64 (0)) rfl ?_) rfl
              refine rl (o_move (v := .int .i64 (8)) rfl ?_) rfl
              refine rl (o_move (v := .slice ao5 n5 c5) rfl ?_) rfl
              refine rl (o_move (v := .int .i64 (0)) rfl ?_) rfl
              refine rl (o_idxM (i := 0) (f := encR) (xs := [q0, q1, q2]) rfl rfl Tryd.underlying33 Tryd.sizeOf24 hR5 (by omega) (by omega) (fun b92 o93 e0 hx95 hF96 hA97 => ?_)) rfl
              obtain rfl : q0 = e0 := by simpa using hx95
              refine rl (o_load (v := .slice q0.ao q0.xs.length q0.c) rfl tyS24 (hA97 0 _ rfl) ?_) rfl
              refine rl (o_call (get_ok 8 q0.ao q0.c q0.xs _ _ rfl (by decide) (by omega) (by omega) hb0 hq0) Tryd.call38 (fun v98 w99 hk100 hv101 => ?_)) rfl
              have hl_b1_w99 := hB6.lt
              have hl_b75_w99 := hB80.lt
              have hl_b82_w99 := hB87.lt
              have hs_w99 := hK.size
              obtain ⟨nN0, aoN0, cN0, rfl, hnN0, hON0⟩ := hv101
              replace hK := hK.trans (Kp.ext hk100)
              replace hB6 := hB6.ext hk100
              replace hB80 := hB80.ext hk100
              replace hB87 := hB87.ext hk100
              replace hT := hT.ext hk100
              replace hR5 := hR5.ext hk100
              replace hTr_w21 := hTr_w21.trans (Kp.ext hk100)
              replace hq0 := hq0.ext hk100
              replace hq1 := hq1.ext hk100
              replace hq2 := hq2.ext hk100
              replace hA43 := At.ext hA43 hk100
              replace hA55 := At.ext hA55 hk100
              replace hA67 := At.ext hA67 hk100
              replace hA97 := At.ext hA97 hk100
              subst hnN0
              have hN0 := Rd.of_ownF hON0 (fun _ => rfl) rfl
              clear hON0
              replace hN0 := hN0.mono (G := fun b => w83.heap.size ≤ b ∧ b < w99.heap.size) (fun b hb h => ⟨h, hb⟩)
              have hTr_w99 := Kp.refl (fun _ => True) w99
              refine rl (o_move (v := .tuple #[.slice aoN0 ((nums 8 q0.xs).length) cN0, .int .i64 (0)]) rfl ?_) rfl
              refine rl (o_extract (vs := [.slice aoN0 ((nums 8 q0.xs).length) cN0, .int .i64 (0)]) (v := .slice aoN0 ((nums 8 q0.xs).length) cN0) rfl rfl ?_) rfl
              refine rl (o_extract (vs := [.slice aoN0 ((nums 8 q0.xs).length) cN0, .int .i64 (0)]) (v := .int .i64 (0)) rfl rfl ?_) rfl
              refine rl (o_idxArr (i := 0) rfl rfl Tryd.underlying84 Tryd.sizeOf83 (by omega) (by omega) ?_) rfl
              refine rl0 (o_store1 (v := .slice aoN0 ((nums 8 q0.xs).length) cN0) rfl rfl hB80 tyS83 rfl (Nat.le_of_ble_eq_true rfl) (fun w102 hk103 hz104 hB105 => ?_)) rfl
              replace hB105 : Box w102 b75 [.slice aoN0 ((nums 8 q0.xs).length) cN0, .slice none 0 0, .slice none 0 0] 84 := hB105
              replace hK := hK.later hk103 (fun i hi hS => by have h1 : i = b75 := hS; omega)
              replace hB6 := hB6.kp hk103 (by show ¬ b1 = b75; omega)
              replace hB87 := hB87.kp hk103 (by show ¬ b82 = b75; omega)
              replace hT := hT.kp hk103 (fun h => by have h2 : (0 : Nat) = b75 := h; omega)
              replace hR5 := hR5.kp hk103 (fun i _ hF hS => by have h1 : w9.heap.size ≤ i ∧ i < w21.heap.size := hF; have h2 : i = b75 := hS; omega)
              replace hTr_w21 := hTr_w21.trans (hk103.mono (fun _ _ _ => trivial))
              replace hq0 := hq0.kp hk103 (fun i _ hF hS => by have h1 : w9.heap.size ≤ i ∧ i < w21.heap.size := hF; have h2 : i = b75 := hS; omega)
              replace hq1 := hq1.kp hk103 (fun i _ hF hS => by have h1 : w9.heap.size ≤ i ∧ i < w21.heap.size := hF; have h2 : i = b75 := hS; omega)
              replace hq2 := hq2.kp hk103 (fun i _ hF hS => by have h1 : w9.heap.size ≤ i ∧ i < w21.heap.size := hF; have h2 : i = b75 := hS; omega)
              replace hN0 := hN0.kp hk103 (fun i _ hF hS => by have h1 : w83.heap.size ≤ i ∧ i < w99.heap.size := hF; have h2 : i = b75 := hS; omega)
              replace hTr_w99 := hTr_w99.trans (hk103.mono (fun _ _ _ => trivial))
              replace hB80 := hB105
              refine rl_nil ?_
              refine k_bn ?_
              refine k_tn ?_
              refine cw_norm [(2, .pointer (some ⟨b1, 0, none⟩)), (6, .slice ao5 n5 c5), (8, .pointer (some ⟨b75, 0, none⟩)), (56, .slice ((some ⟨b82, 0, none⟩)) 3 3), (57, .int .i64 (3)), (58, .int .i64 (0))] ⟨rfl, rfl, rfl, rfl, rfl, rfl, trivial⟩ (fun ρn106 => ?_)
              refine cw_region rfl ?_
              refine rl (o_add64 (a := 0) (b := 1) rfl rfl (by omega) (by omega) ?_) rfl
              refine rl (o_move (v := .int .i64 (1)) rfl ?_) rfl
              refine rl_nil ?_
              refine k_tn ?_
              refine cwl_unroll ?_
              refine cw_seq ?_
              refine cw_region rfl ?_
              refine rl (o_lss rfl rfl ?_) rfl
              refine rl_nil ?_
              refine k_tn ?_
              refine cw_norm [(2, .pointer (some ⟨b1, 0, none⟩)), (6, .slice ao5 n5 c5), (8, .pointer (some ⟨b75, 0, none⟩)), (56, .slice ((some ⟨b82, 0, none⟩)) 3 3), (57, .int .i64 (3)), (58, .int .i64 (1)), (59, .bool (true))] ⟨rfl, rfl, rfl, rfl, rfl, rfl, rfl, trivial⟩ (fun ρn107 => ?_)
              refine cw_seq ?_
              refine cw_condT rfl ?_
              refine cw_skip ?_
              refine k_tn ?_
              refine cw_norm [(2, .pointer (some ⟨b1, 0, none⟩)), (6, .slice ao5 n5 c5), (8, .pointer (some ⟨b75, 0, none⟩)), (56, .slice ((some ⟨b82, 0, none⟩)) 3 3), (57, .int .i64 (3)), (58, .int .i64 (1))] ⟨rfl, rfl, rfl, rfl, rfl, rfl, trivial⟩ (fun ρn108 => ?_)
              refine cw_seq ?_
              refine cw_block ?_
              refine cw_seq ?_
              refine cw_region rfl ?_
              refine rl (o_move (v := .int .i64 (1)) rfl ?_) rfl
              refine rl (o_idxAt 1 rfl rfl Tryd.underlying51 Tryd.sizeOf3 rfl rfl (by decide) ?_) rfl
              refine rl (o_loadB (v := .int .i64 (4)) rfl hB87 tyS3 rfl ?_) rfl
              refine rl (o_assign (v := .int .i64 (1)) rfl ?_) rfl
              refine rl (o_assign (v := .int .i64 (4)) rfl ?_) rfl
              refine rl_nil ?_
              refine k_tn ?_
              refine cw_norm [(2, .pointer (some ⟨b1, 0, none⟩)), (6, .slice ao5 n5 c5), (8, .pointer (some ⟨b75, 0, none⟩)), (9, .int .i64 (1)), (10, .int .i64 (4)), (56, .slice ((some ⟨b82, 0, none⟩)) 3 3), (57, .int .i64 (3)), (58, .int .i64 (1))] ⟨rfl, rfl, rfl, rfl, rfl, rfl, rfl, rfl, trivial⟩ (fun ρn109 => ?_)
              refine cw_region rfl ?_
              refine rl (o_move (v := .int .i64 (1)) rfl ?_) rfl
              refine rl (o_move (v := .int .i64 (4)) rfl ?_) rfl
              refine rl (o_move (v := .slice ao5 n5 c5) rfl ?_) rfl
              refine rl (o_move (v := .int .i64 (1)) rfl ?_) rfl
              refine rl (o_idxM (i := 1) (f := encR) (xs := [q0, q1, q2]) rfl rfl Tryd.underlying33 Tryd.sizeOf24 hR5 (by omega) (by omega) (fun b110 o111 e1 hx113 hF114 hA115 => ?_)) rfl
              obtain rfl : q1 = e1 := by simpa using hx113
              refine rl (o_load (v := .slice q1.ao q1.xs.length q1.c) rfl tyS24 (hA115 0 _ rfl) ?_) rfl
              refine rl (o_call (get_ok 4 q1.ao q1.c q1.xs _ _ rfl (by decide) (by omega) (by omega) hb1 hq1) Tryd.call38 (fun v116 w117 hk118 hv119 => ?_)) rfl
              have hl_b1_w117 := hB6.lt
              have hl_b75_w117 := hB80.lt
              have hl_b82_w117 := hB87.lt
              have hs_w117 := hK.size
              obtain ⟨nN1, aoN1, cN1, rfl, hnN1, hON1⟩ := hv119
              replace hK := hK.trans (Kp.ext hk118)
              replace hB6 := hB6.ext hk118
              replace hB80 := hB80.ext hk118
              replace hB87 := hB87.ext hk118
              replace hT := hT.ext hk118
              replace hR5 := hR5.ext hk118
              replace hTr_w21 := hTr_w21.trans (Kp.ext hk118)
              replace hq0 := hq0.ext hk118
              replace hq1 := hq1.ext hk118
              replace hq2 := hq2.ext hk118
              replace hN0 := hN0.ext hk118
              replace hTr_w99 := hTr_w99.trans (Kp.ext hk118)
              replace hA115 := At.ext hA115 hk118
              subst hnN1
              have hN1 := Rd.of_ownF hON1 (fun _ => rfl) rfl
              clear hON1
              replace hN1 := hN1.mono (G := fun b => w102.heap.size ≤ b ∧ b < w117.heap.size) (fun b hb h => ⟨h, hb⟩)
              have hTr_w117 := Kp.refl (fun _ => True) w117
              refine rl (o_move (v := .tuple #[.slice aoN1 ((nums 4 q1.xs).length) cN1, .int .i64 (0)]) rfl ?_) rfl
              refine rl (o_extract (vs := [.slice aoN1 ((nums 4 q1.xs).length) cN1, .int .i64 (0)]) (v := .slice aoN1 ((nums 4 q1.xs).length) cN1) rfl rfl ?_) rfl
              refine rl (o_extract (vs := [.slice aoN1 ((nums 4 q1.xs).length) cN1, .int .i64 (0)]) (v := .int .i64 (0)) rfl rfl ?_) rfl
              refine rl (o_idxArr (i := 1) rfl rfl Tryd.underlying84 Tryd.sizeOf83 (by omega) (by omega) ?_) rfl
              refine rl0 (o_store1 (v := .slice aoN1 ((nums 4 q1.xs).length) cN1) rfl rfl hB80 tyS83 rfl (Nat.le_of_ble_eq_true rfl) (fun w120 hk121 hz122 hB123 => ?_)) rfl
              replace hB123 : Box w120 b75 [.slice aoN0 ((nums 8 q0.xs).length) cN0, .slice aoN1 ((nums 4 q1.xs).length) cN1, .slice none 0 0] 84 := hB123
              replace hK := hK.later hk121 (fun i hi hS => by have h1 : i = b75 := hS; omega)
              replace hB6 := hB6.kp hk121 (by show ¬ b1 = b75; omega)
              replace hB87 := hB87.kp hk121 (by show ¬ b82 = b75; omega)
              replace hT := hT.kp hk121 (fun h => by have h2 : (0 : Nat) = b75 := h; omega)
              replace hR5 := hR5.kp hk121 (fun i _ hF hS => by have h1 : w9.heap.size ≤ i ∧ i < w21.heap.size := hF; have h2 : i = b75 := hS; omega)
              replace hTr_w21 := hTr_w21.trans (hk121.mono (fun _ _ _ => trivial))
              replace hq0 := hq0.kp hk121 (fun i _ hF hS => by have h1 : w9.heap.size ≤ i ∧ i < w21.heap.size := hF; have h2 : i = b75 := hS; omega)
              replace hq1 := hq1.kp hk121 (fun i _ hF hS => by have h1 : w9.heap.size ≤ i ∧ i < w21.heap.size := hF; have h2 : i = b75 := hS; omega)
              replace hq2 := hq2.kp hk121 (fun i _ hF hS => by have h1 : w9.heap.size ≤ i ∧ i < w21.heap.size := hF; have h2 : i = b75 := hS; omega)
              replace hN0 := hN0.kp hk121 (fun i _ hF hS => by have h1 : w83.heap.size ≤ i ∧ i < w99.heap.size := hF; have h2 : i = b75 := hS; omega)
              replace hTr_w99 := hTr_w99.trans (hk121.mono (fun _ _ _ => trivial))
              replace hN1 := hN1.kp hk121 (fun i _ hF hS => by have h1 : w102.heap.size ≤ i ∧ i < w117.heap.size := hF; have h2 : i = b75 := hS; omega)
              replace hTr_w117 := hTr_w117.trans (hk121.mono (fun _ _ _ => trivial))
              replace hB80 := hB123
              refine rl_nil ?_
              refine k_bn ?_
              refine k_tn ?_
              refine cw_norm [(2, .pointer (some ⟨b1, 0, none⟩)), (6, .slice ao5 n5 c5), (8, .pointer (some ⟨b75, 0, none⟩)), (56, .slice ((some ⟨b82, 0, none⟩)) 3 3), (57, .int .i64 (3)), (58, .int .i64 (1))] ⟨rfl, rfl, rfl, rfl, rfl, rfl, trivial⟩ (fun ρn124 => ?_)
              refine cw_region rfl ?_
              refine rl (o_add64 (a := 1) (b := 1) rfl rfl (by omega) (by omega) ?_) rfl
              refine rl (o_move (v := .int .i64 (2)) rfl ?_) rfl
              refine rl_nil ?_
              refine k_tn ?_
              refine cwl_unroll ?_
              refine cw_seq ?_
              refine cw_region rfl ?_
              refine rl (o_lss rfl rfl ?_) rfl
              refine rl_nil ?_
              refine k_tn ?_
              refine cw_norm [(2, .pointer (some ⟨b1, 0, none⟩)), (6, .slice ao5 n5 c5), (8, .pointer (some ⟨b75, 0, none⟩)), (56, .slice ((some ⟨b82, 0, none⟩)) 3 3), (57, .int .i64 (3)), (58, .int .i64 (2)), (59, .bool (true))] ⟨rfl, rfl, rfl, rfl, rfl, rfl, rfl, trivial⟩ (fun ρn125 => ?_)
              refine cw_seq ?_
              refine cw_condT rfl ?_
              refine cw_skip ?_
              refine k_tn ?_
              refine cw_norm [(2, .pointer (some ⟨b1, 0, none⟩)), (6, .slice ao5 n5 c5), (8, .pointer (some ⟨b75, 0, none⟩)), (56, .slice ((some ⟨b82, 0, none⟩)) 3 3), (57, .int .i64 (3)), (58, .int .i64 (2))] ⟨rfl, rfl, rfl, rfl, rfl, rfl, trivial⟩ (fun ρn126 => ?_)
              refine cw_seq ?_
              refine cw_block ?_
              refine cw_seq ?_
              refine cw_region rfl ?_
              refine rl (o_move (v := .int .i64 (2)) rfl ?_) rfl
              refine rl (o_idxAt 2 rfl rfl Tryd.underlying51 Tryd.sizeOf3 rfl rfl (by decide) ?_) rfl
              refine rl (o_loadB (v := .int .i64 (4)) rfl hB87 tyS3 rfl ?_) rfl
              refine rl (o_assign (v := .int .i64 (2)) rfl ?_) rfl
              refine rl (o_assign (v := .int .i64 (4)) rfl ?_) rfl
              refine rl_nil ?_
              refine k_tn ?_
              refine cw_norm [(2, .pointer (some ⟨b1, 0, none⟩)), (6, .slice ao5 n5 c5), (8, .pointer (some ⟨b75, 0, none⟩)), (9, .int .i64 (2)), (10, .int .i64 (4)), (56, .slice ((some ⟨b82, 0, none⟩)) 3 3), (57, .int .i64 (3)), (58, .int .i64 (2))] ⟨rfl, rfl, rfl, rfl, rfl, rfl, rfl, rfl, trivial⟩ (fun ρn127 => ?_)
              refine cw_region rfl ?_
              refine rl (o_move (v := .int .i64 (2)) rfl ?_) rfl
              refine rl (o_move (v := .int .i64 (4)) rfl ?_) rfl
              refine rl (o_move (v := .slice ao5 n5 c5) rfl ?_) rfl
              refine rl (o_move (v := .int .i64 (2)) rfl ?_) rfl
              refine rl (o_idxM (i := 2) (f := encR) (xs := [q0, q1, q2]) rfl rfl Tryd.underlying33 Tryd.sizeOf24 hR5 (by omega) (by omega) (fun b128 o129 e2 hx131 hF132 hA133 => ?_)) rfl
              obtain rfl : q2 = e2 := by simpa using hx131
              refine rl (o_load (v := .slice q2.ao q2.xs.length q2.c) rfl tyS24 (hA133 0 _ rfl) ?_) rfl
              refine rl (o_call (get_ok 4 q2.ao q2.c q2.xs _ _ rfl (by decide) (by omega) (by omega) hb2 hq2) Tryd.call38 (fun v134 w135 hk136 hv137 => ?_)) rfl
              have hl_b1_w135 := hB6.lt
              have hl_b75_w135 := hB80.lt
              have hl_b82_w135 := hB87.lt
              have hs_w135 := hK.size
              obtain ⟨nN2, aoN2, cN2, rfl, hnN2, hON2⟩ := hv137
              replace hK := hK.trans (Kp.ext hk136)
              replace hB6 := hB6.ext hk136
              replace hB80 := hB80.ext hk136
              replace hB87 := hB87.ext hk136
              replace hT := hT.ext hk136
              replace hR5 := hR5.ext hk136
              replace hTr_w21 := hTr_w21.trans (Kp.ext hk136)
              replace hq0 := hq0.ext hk136
              replace hq1 := hq1.ext hk136
              replace hq2 := hq2.ext hk136
              replace hN0 := hN0.ext hk136
              replace hTr_w99 := hTr_w99.trans (Kp.ext hk136)
              replace hN1 := hN1.ext hk136
              replace hTr_w117 := hTr_w117.trans (Kp.ext hk136)
              replace hA133 := At.ext hA133 hk136
              subst hnN2
              have hN2 := Rd.of_ownF hON2 (fun _ => rfl) rfl
              clear hON2
              replace hN2 := hN2.mono (G := fun b => w120.heap.size ≤ b ∧ b < w135.heap.size) (fun b hb h => ⟨h, hb⟩)
              have hTr_w135 := Kp.refl (fun _ => True) w135
              refine rl (o_move (v := .tuple #[.slice aoN2 ((nums 4 q2.xs).length) cN2, .int .i64 (0)]) rfl ?_) rfl
              refine rl (o_extract (vs := [.slice aoN2 ((nums 4 q2.xs).length) cN2, .int .i64 (0)]) (v := .slice aoN2 ((nums 4 q2.xs).length) cN2) rfl rfl ?_) rfl
              refine rl (o_extract (vs := [.slice aoN2 ((nums 4 q2.xs).length) cN2, .int .i64 (0)]) (v := .int .i64 (0)) rfl rfl ?_) rfl
              refine rl (o_idxArr (i := 2) rfl rfl Tryd.underlying84 Tryd.sizeOf83 (by omega) (by omega) ?_) rfl
              refine rl0 (o_store1 (v := .slice aoN2 ((nums 4 q2.xs).length) cN2) rfl rfl hB80 tyS83 rfl (Nat.le_of_ble_eq_true rfl) (fun w138 hk139 hz140 hB141 => ?_)) rfl
              replace hB141 : Box w138 b75 [.slice aoN0 ((nums 8 q0.xs).length) cN0, .slice aoN1 ((nums 4 q1.xs).length) cN1, .slice aoN2 ((nums 4 q2.xs).length) cN2] 84 := hB141
              replace hK := hK.later hk139 (fun i hi hS => by have h1 : i = b75 := hS; omega)
              replace hB6 := hB6.kp hk139 (by show ¬ b1 = b75; omega)
              replace hB87 := hB87.kp hk139 (by show ¬ b82 = b75; omega)
              replace hT := hT.kp hk139 (fun h => by have h2 : (0 : Nat) = b75 := h; omega)
              replace hR5 := hR5.kp hk139 (fun i _ hF hS => by have h1 : w9.heap.size ≤ i ∧ i < w21.heap.size := hF; have h2 : i = b75 := hS; omega)
              replace hTr_w21 := hTr_w21.trans (hk139.mono (fun _ _ _ => trivial))
              replace hq0 := hq0.kp hk139 (fun i _ hF hS => by have h1 : w9.heap.size ≤ i ∧ i < w21.heap.size := hF; have h2 : i = b75 := hS; omega)
              replace hq1 := hq1.kp hk139 (fun i _ hF hS => by have h1 : w9.heap.size ≤ i ∧ i < w21.heap.size := hF; have h2 : i = b75 := hS; omega)
              replace hq2 := hq2.kp hk139 (fun i _ hF hS => by have h1 : w9.heap.size ≤ i ∧ i < w21.heap.size := hF; have h2 : i = b75 := hS; omega)
              replace hN0 := hN0.kp hk139 (fun i _ hF hS => by have h1 : w83.heap.size ≤ i ∧ i < w99.heap.size := hF; have h2 : i = b75 := hS; omega)
              replace hTr_w99 := hTr_w99.trans (hk139.mono (fun _ _ _ => trivial))
              replace hN1 := hN1.kp hk139 (fun i _ hF hS => by have h1 : w102.heap.size ≤ i ∧ i < w117.heap.size := hF; have h2 : i = b75 := hS; omega)
              replace hTr_w117 := hTr_w117.trans (hk139.mono (fun _ _ _ => trivial))
              replace hN2 := hN2.kp hk139 (fun i _ hF hS => by have h1 : w120.heap.size ≤ i ∧ i < w135.heap.size := hF; have h2 : i = b75 := hS; omega)
              replace hTr_w135 := hTr_w135.trans (hk139.mono (fun _ _ _ => trivial))
              replace hB80 := hB141
              refine rl_nil ?_
              refine k_bn ?_
              refine k_tn ?_
              refine cw_norm [(2, .pointer (some ⟨b1, 0, none⟩)), (6, .slice ao5 n5 c5), (8, .pointer (some ⟨b75, 0, none⟩)), (56, .slice ((some ⟨b82, 0, none⟩)) 3 3), (57, .int .i64 (3)), (58, .int .i64 (2))] ⟨rfl, rfl, rfl, rfl, rfl, rfl, trivial⟩ (fun ρn142 => ?_)
              refine cw_region rfl ?_
              refine rl (o_add64 (a := 2) (b := 1) rfl rfl (by omega) (by omega) ?_) rfl
              refine rl (o_move (v := .int .i64 (3)) rfl ?_) rfl
              refine rl_nil ?_
              refine k_tn ?_
              refine cwl_unroll ?_
              refine cw_seq ?_
              refine cw_region rfl ?_
              refine rl (o_lss rfl rfl ?_) rfl
              refine rl_nil ?_
              refine k_tn ?_
              refine cw_norm [(2, .pointer (some ⟨b1, 0, none⟩)), (6, .slice ao5 n5 c5), (8, .pointer (some ⟨b75, 0, none⟩)), (56, .slice ((some ⟨b82, 0, none⟩)) 3 3), (57, .int .i64 (3)), (58, .int .i64 (3)), (59, .bool (false))] ⟨rfl, rfl, rfl, rfl, rfl, rfl, rfl, trivial⟩ (fun ρn143 => ?_)
              refine cw_seq ?_
              refine cw_condF rfl ?_
              refine cw_exit ?_
              refine k_te ?_
              refine k_te ?_
              refine k_bh ?_
              refine k_tn ?_
              refine cw_norm [(2, .pointer (some ⟨b1, 0, none⟩)), (8, .pointer (some ⟨b75, 0, none⟩))] ⟨rfl, rfl, trivial⟩ (fun ρn144 => ?_)
              have hlN1 : (nums 4 q1.xs).length = 2 := nums_len (by decide) (by omega)
              obtain ⟨b10, o10, x10, hao10, hx10, hA10, hlt_b10, hF_b10⟩ := Rd.getF hN1 0 (by omega)
              replace hF_b10 : w102.heap.size ≤ b10 ∧ b10 < w117.heap.size := hF_b10
              obtain ⟨b11, o11, x11, hao11, hx11, hA11, hlt_b11, hF_b11⟩ := Rd.getF hN1 1 (by omega)
              replace hF_b11 : w102.heap.size ≤ b11 ∧ b11 < w117.heap.size := hF_b11
              have hy10 := nums_bound (n := 4) hb1 x10 (List.mem_of_getElem? hx10)
              have hy11 := nums_bound (n := 4) hb1 x11 (List.mem_of_getElem? hx11)
              have hp4 : ((256 ^ 4 : Nat) : Int) = 4294967296 := by decide
              rw [hp4] at hy10 hy11
              have ht_hTr_w21_d1 := hTr_w21.size
              have ht_hTr_w99_d1 := hTr_w99.size
              have ht_hTr_w117_d1 := hTr_w117.size
              have ht_hTr_w135_d1 := hTr_w135.size
              have hl_b1_d1 := hB6.lt
              have hl_b75_d1 := hB80.lt
              have hl_b82_d1 := hB87.lt
              refine cw_norm [(2, .pointer (some ⟨b1, 0, none⟩)), (8, .pointer (some ⟨b75, 0, none⟩))] ⟨rfl, rfl, trivial⟩ (fun ρr163 => ?_)
              refine cw_drawn [.val (.pointer (some ⟨b75, 1, none⟩)), .val (.slice aoN1 ((nums 4 q1.xs).length) cN1), .val (.pointer (some ⟨b10, o10 + 0 * 1, none⟩)), .val (.int .u64 (x10)), .val (.int .i64 (x10)), .val (.pointer (some ⟨b75, 1, none⟩)), .val (.slice aoN1 ((nums 4 q1.xs).length) cN1), .val (.pointer (some ⟨b11, o11 + 1 * 1, none⟩)), .val (.int .u64 (x11)), .val (.int .i64 (x11)), .val (.agg #[.int .i64 (x10), .int .i64 (x11), .int .i64 (0), .slice none 0 0]), .fact (fun v w' => ∃ (b157 : Nat), v = .pointer (some ⟨b157, 0, none⟩) ∧ (w138.heap.size ≤ b157) ∧ (Box w' b157 [.int .i64 (0), .int .i64 (0), .int .i64 (0), .slice none 0 0] 32))] [[], [0], [0, 1], [0, 1, 2], [0, 1, 2, 3], [], [5], [5, 6], [5, 6, 7], [5, 6, 7, 8], [0, 1, 2, 3, 4, 5, 6, 7, 8, 9], [], [0, 1, 2, 3, 4, 5, 6, 7, 8, 9, 10, 11]] 12 mixed (by kernel_rfl) ⟨trivial, trivial, trivial, trivial, trivial, trivial, trivial, trivial, trivial, trivial, trivial, (fun v w w' ⟨b157, hv, hge_b157, hB162⟩ hk => ⟨b157, hv, hge_b157, hB162.ext hk⟩), trivial⟩ ⟨⟨⟨⟨⟨⟨⟨⟨⟨⟨⟨⟨trivial, ?_⟩, ?_⟩, ?_⟩, ?_⟩, ?_⟩, ?_⟩, ?_⟩, ?_⟩, ?_⟩, ?_⟩, ?_⟩, ?_⟩ (fun w164 vs165 hE166 hkn167 => ?_)
              · refine obl_mk rfl (fun w164k vs hE hkn => ?_)
                replace hK := hK.trans (Kp.ext hE)
                replace hB6 := hB6.ext hE
                replace hB80 := hB80.ext hE
                replace hB87 := hB87.ext hE
                replace hT := hT.ext hE
                replace hR5 := hR5.ext hE
                replace hTr_w21 := hTr_w21.trans (Kp.ext hE)
                replace hq0 := hq0.ext hE
                replace hq1 := hq1.ext hE
                replace hq2 := hq2.ext hE
                replace hN0 := hN0.ext hE
                replace hTr_w99 := hTr_w99.trans (Kp.ext hE)
                replace hN1 := hN1.ext hE
                replace hTr_w117 := hTr_w117.trans (Kp.ext hE)
                replace hN2 := hN2.ext hE
                replace hTr_w135 := hTr_w135.trans (Kp.ext hE)
                replace hA10 := At.ext hA10 hE
                replace hA11 := At.ext hA11 hE
                refine obl_t rfl ?_
                refine opk_norm [(8, .pointer (some ⟨b75, 0, none⟩))] ⟨rfl, trivial⟩ (fun ρq => ?_)
                refine o_idxArr (i := 1) rfl rfl Tryd.underlying84 Tryd.sizeOf83 (by omega) (by omega) ?_
                exact ⟨Kp.refl _ _, rfl⟩
              · refine obl_mk rfl (fun w164k vs hE hkn => ?_)
                replace hK := hK.trans (Kp.ext hE)
                replace hB6 := hB6.ext hE
                replace hB80 := hB80.ext hE
                replace hB87 := hB87.ext hE
                replace hT := hT.ext hE
                replace hR5 := hR5.ext hE
                replace hTr_w21 := hTr_w21.trans (Kp.ext hE)
                replace hq0 := hq0.ext hE
                replace hq1 := hq1.ext hE
                replace hq2 := hq2.ext hE
                replace hN0 := hN0.ext hE
                replace hTr_w99 := hTr_w99.trans (Kp.ext hE)
                replace hN1 := hN1.ext hE
                replace hTr_w117 := hTr_w117.trans (Kp.ext hE)
                replace hN2 := hN2.ext hE
                replace hTr_w135 := hTr_w135.trans (Kp.ext hE)
                replace hA10 := At.ext hA10 hE
                replace hA11 := At.ext hA11 hE
                refine obl_t rfl ?_
                refine opk_norm [(75, .pointer (some ⟨b75, 1, none⟩))] ⟨rfl, trivial⟩ (fun ρq => ?_)
                refine o_loadB (v := .slice aoN1 ((nums 4 q1.xs).length) cN1) rfl hB80 tyS83 rfl ?_
                exact ⟨Kp.refl _ _, rfl⟩
              · refine obl_mk rfl (fun w164k vs hE hkn => ?_)
                replace hK := hK.trans (Kp.ext hE)
                replace hB6 := hB6.ext hE
                replace hB80 := hB80.ext hE
                replace hB87 := hB87.ext hE
                replace hT := hT.ext hE
                replace hR5 := hR5.ext hE
                replace hTr_w21 := hTr_w21.trans (Kp.ext hE)
                replace hq0 := hq0.ext hE
                replace hq1 := hq1.ext hE
                replace hq2 := hq2.ext hE
                replace hN0 := hN0.ext hE
                replace hTr_w99 := hTr_w99.trans (Kp.ext hE)
                replace hN1 := hN1.ext hE
                replace hTr_w117 := hTr_w117.trans (Kp.ext hE)
                replace hN2 := hN2.ext hE
                replace hTr_w135 := hTr_w135.trans (Kp.ext hE)
                replace hA10 := At.ext hA10 hE
                replace hA11 := At.ext hA11 hE
                refine obl_t rfl ?_
                refine opk_norm [(76, .slice aoN1 ((nums 4 q1.xs).length) cN1)] ⟨rfl, trivial⟩ (fun ρq => ?_)
                refine o_idxAt 0 rfl rfl Tryd.underlying83 Tryd.sizeOf36 hao10 (by omega) (by omega) ?_
                exact ⟨Kp.refl _ _, rfl⟩
              · refine obl_mk rfl (fun w164k vs hE hkn => ?_)
                replace hK := hK.trans (Kp.ext hE)
                replace hB6 := hB6.ext hE
                replace hB80 := hB80.ext hE
                replace hB87 := hB87.ext hE
                replace hT := hT.ext hE
                replace hR5 := hR5.ext hE
                replace hTr_w21 := hTr_w21.trans (Kp.ext hE)
                replace hq0 := hq0.ext hE
                replace hq1 := hq1.ext hE
                replace hq2 := hq2.ext hE
                replace hN0 := hN0.ext hE
                replace hTr_w99 := hTr_w99.trans (Kp.ext hE)
                replace hN1 := hN1.ext hE
                replace hTr_w117 := hTr_w117.trans (Kp.ext hE)
                replace hN2 := hN2.ext hE
                replace hTr_w135 := hTr_w135.trans (Kp.ext hE)
                replace hA10 := At.ext hA10 hE
                replace hA11 := At.ext hA11 hE
                refine obl_t rfl ?_
                refine opk_norm [(77, .pointer (some ⟨b10, o10 + 0 * 1, none⟩))] ⟨rfl, trivial⟩ (fun ρq => ?_)
                refine o_load (v := .int .u64 (x10)) rfl tyS36 (hA10 0 _ rfl) ?_
                exact ⟨Kp.refl _ _, rfl⟩
              · refine obl_mk rfl (fun w164k vs hE hkn => ?_)
                replace hK := hK.trans (Kp.ext hE)
                replace hB6 := hB6.ext hE
                replace hB80 := hB80.ext hE
                replace hB87 := hB87.ext hE
                replace hT := hT.ext hE
                replace hR5 := hR5.ext hE
                replace hTr_w21 := hTr_w21.trans (Kp.ext hE)
                replace hq0 := hq0.ext hE
                replace hq1 := hq1.ext hE
                replace hq2 := hq2.ext hE
                replace hN0 := hN0.ext hE
                replace hTr_w99 := hTr_w99.trans (Kp.ext hE)
                replace hN1 := hN1.ext hE
                replace hTr_w117 := hTr_w117.trans (Kp.ext hE)
                replace hN2 := hN2.ext hE
                replace hTr_w135 := hTr_w135.trans (Kp.ext hE)
                replace hA10 := At.ext hA10 hE
                replace hA11 := At.ext hA11 hE
                refine obl_t rfl ?_
                refine opk_norm [(78, .int .u64 (x10))] ⟨rfl, trivial⟩ (fun ρq => ?_)
                refine o_convI (a := x10) rfl ⟨_, Tryd.underlying36⟩ Tryd.underlying3 (by show (-9223372036854775808 : Int) ≤ _; omega) (by show _ ≤ (9223372036854775807 : Int); omega) ?_
                exact ⟨Kp.refl _ _, rfl⟩
              · refine obl_mk rfl (fun w164k vs hE hkn => ?_)
                replace hK := hK.trans (Kp.ext hE)
                replace hB6 := hB6.ext hE
                replace hB80 := hB80.ext hE
                replace hB87 := hB87.ext hE
                replace hT := hT.ext hE
                replace hR5 := hR5.ext hE
                replace hTr_w21 := hTr_w21.trans (Kp.ext hE)
                replace hq0 := hq0.ext hE
                replace hq1 := hq1.ext hE
                replace hq2 := hq2.ext hE
                replace hN0 := hN0.ext hE
                replace hTr_w99 := hTr_w99.trans (Kp.ext hE)
                replace hN1 := hN1.ext hE
                replace hTr_w117 := hTr_w117.trans (Kp.ext hE)
                replace hN2 := hN2.ext hE
                replace hTr_w135 := hTr_w135.trans (Kp.ext hE)
                replace hA10 := At.ext hA10 hE
                replace hA11 := At.ext hA11 hE
                refine obl_t rfl ?_
                refine opk_norm [(8, .pointer (some ⟨b75, 0, none⟩))] ⟨rfl, trivial⟩ (fun ρq => ?_)
                refine o_idxArr (i := 1) rfl rfl Tryd.underlying84 Tryd.sizeOf83 (by omega) (by omega) ?_
                exact ⟨Kp.refl _ _, rfl⟩
              · refine obl_mk rfl (fun w164k vs hE hkn => ?_)
                replace hK := hK.trans (Kp.ext hE)
                replace hB6 := hB6.ext hE
                replace hB80 := hB80.ext hE
                replace hB87 := hB87.ext hE
                replace hT := hT.ext hE
                replace hR5 := hR5.ext hE
                replace hTr_w21 := hTr_w21.trans (Kp.ext hE)
                replace hq0 := hq0.ext hE
                replace hq1 := hq1.ext hE
                replace hq2 := hq2.ext hE
                replace hN0 := hN0.ext hE
                replace hTr_w99 := hTr_w99.trans (Kp.ext hE)
                replace hN1 := hN1.ext hE
                replace hTr_w117 := hTr_w117.trans (Kp.ext hE)
                replace hN2 := hN2.ext hE
                replace hTr_w135 := hTr_w135.trans (Kp.ext hE)
                replace hA10 := At.ext hA10 hE
                replace hA11 := At.ext hA11 hE
                refine obl_t rfl ?_
                refine opk_norm [(80, .pointer (some ⟨b75, 1, none⟩))] ⟨rfl, trivial⟩ (fun ρq => ?_)
                refine o_loadB (v := .slice aoN1 ((nums 4 q1.xs).length) cN1) rfl hB80 tyS83 rfl ?_
                exact ⟨Kp.refl _ _, rfl⟩
              · refine obl_mk rfl (fun w164k vs hE hkn => ?_)
                replace hK := hK.trans (Kp.ext hE)
                replace hB6 := hB6.ext hE
                replace hB80 := hB80.ext hE
                replace hB87 := hB87.ext hE
                replace hT := hT.ext hE
                replace hR5 := hR5.ext hE
                replace hTr_w21 := hTr_w21.trans (Kp.ext hE)
                replace hq0 := hq0.ext hE
                replace hq1 := hq1.ext hE
                replace hq2 := hq2.ext hE
                replace hN0 := hN0.ext hE
                replace hTr_w99 := hTr_w99.trans (Kp.ext hE)
                replace hN1 := hN1.ext hE
                replace hTr_w117 := hTr_w117.trans (Kp.ext hE)
                replace hN2 := hN2.ext hE
                replace hTr_w135 := hTr_w135.trans (Kp.ext hE)
                replace hA10 := At.ext hA10 hE
                replace hA11 := At.ext hA11 hE
                refine obl_t rfl ?_
                refine opk_norm [(81, .slice aoN1 ((nums 4 q1.xs).length) cN1)] ⟨rfl, trivial⟩ (fun ρq => ?_)
                refine o_idxAt 1 rfl rfl Tryd.underlying83 Tryd.sizeOf36 hao11 (by omega) (by omega) ?_
                exact ⟨Kp.refl _ _, rfl⟩
              · refine obl_mk rfl (fun w164k vs hE hkn => ?_)
                replace hK := hK.trans (Kp.ext hE)
                replace hB6 := hB6.ext hE
                replace hB80 := hB80.ext hE
                replace hB87 := hB87.ext hE
                replace hT := hT.ext hE
                replace hR5 := hR5.ext hE
                replace hTr_w21 := hTr_w21.trans (Kp.ext hE)
                replace hq0 := hq0.ext hE
                replace hq1 := hq1.ext hE
                replace hq2 := hq2.ext hE
                replace hN0 := hN0.ext hE
                replace hTr_w99 := hTr_w99.trans (Kp.ext hE)
                replace hN1 := hN1.ext hE
                replace hTr_w117 := hTr_w117.trans (Kp.ext hE)
                replace hN2 := hN2.ext hE
                replace hTr_w135 := hTr_w135.trans (Kp.ext hE)
                replace hA10 := At.ext hA10 hE
                replace hA11 := At.ext hA11 hE
                refine obl_t rfl ?_
                refine opk_norm [(82, .pointer (some ⟨b11, o11 + 1 * 1, none⟩))] ⟨rfl, trivial⟩ (fun ρq => ?_)
                refine o_load (v := .int .u64 (x11)) rfl tyS36 (hA11 0 _ rfl) ?_
                exact ⟨Kp.refl _ _, rfl⟩
              · refine obl_mk rfl (fun w164k vs hE hkn => ?_)
                replace hK := hK.trans (Kp.ext hE)
                replace hB6 := hB6.ext hE
                replace hB80 := hB80.ext hE
                replace hB87 := hB87.ext hE
                replace hT := hT.ext hE
                replace hR5 := hR5.ext hE
                replace hTr_w21 := hTr_w21.trans (Kp.ext hE)
                replace hq0 := hq0.ext hE
                replace hq1 := hq1.ext hE
                replace hq2 := hq2.ext hE
                replace hN0 := hN0.ext hE
                replace hTr_w99 := hTr_w99.trans (Kp.ext hE)
                replace hN1 := hN1.ext hE
                replace hTr_w117 := hTr_w117.trans (Kp.ext hE)
                replace hN2 := hN2.ext hE
                replace hTr_w135 := hTr_w135.trans (Kp.ext hE)
                replace hA10 := At.ext hA10 hE
                replace hA11 := At.ext hA11 hE
                refine obl_t rfl ?_
                refine opk_norm [(83, .int .u64 (x11))] ⟨rfl, trivial⟩ (fun ρq => ?_)
                refine o_convI (a := x11) rfl ⟨_, Tryd.underlying36⟩ Tryd.underlying3 (by show (-9223372036854775808 : Int) ≤ _; omega) (by show _ ≤ (9223372036854775807 : Int); omega) ?_
                exact ⟨Kp.refl _ _, rfl⟩
              · refine obl_mk rfl (fun w164k vs hE hkn => ?_)
                replace hK := hK.trans (Kp.ext hE)
                replace hB6 := hB6.ext hE
                replace hB80 := hB80.ext hE
                replace hB87 := hB87.ext hE
                replace hT := hT.ext hE
                replace hR5 := hR5.ext hE
                replace hTr_w21 := hTr_w21.trans (Kp.ext hE)
                replace hq0 := hq0.ext hE
                replace hq1 := hq1.ext hE
                replace hq2 := hq2.ext hE
                replace hN0 := hN0.ext hE
                replace hTr_w99 := hTr_w99.trans (Kp.ext hE)
                replace hN1 := hN1.ext hE
                replace hTr_w117 := hTr_w117.trans (Kp.ext hE)
                replace hN2 := hN2.ext hE
                replace hTr_w135 := hTr_w135.trans (Kp.ext hE)
                replace hA10 := At.ext hA10 hE
                replace hA11 := At.ext hA11 hE
                refine obl_t rfl ?_
                refine opk_norm [(79, .int .i64 (x10)), (84, .int .i64 (x11))] ⟨rfl, rfl, trivial⟩ (fun ρq => ?_)
                refine o_build (cs := [.int .i64 (x10), .int .i64 (x11), .int .i64 (0), .slice none 0 0]) bt32 rfl ?_
                exact ⟨Kp.refl _ _, rfl⟩
              · refine obl_mk rfl (fun w164k vs hE hkn => ?_)
                replace hK := hK.trans (Kp.ext hE)
                replace hB6 := hB6.ext hE
                replace hB80 := hB80.ext hE
                replace hB87 := hB87.ext hE
                replace hT := hT.ext hE
                replace hR5 := hR5.ext hE
                replace hTr_w21 := hTr_w21.trans (Kp.ext hE)
                replace hq0 := hq0.ext hE
                replace hq1 := hq1.ext hE
                replace hq2 := hq2.ext hE
                replace hN0 := hN0.ext hE
                replace hTr_w99 := hTr_w99.trans (Kp.ext hE)
                replace hN1 := hN1.ext hE
                replace hTr_w117 := hTr_w117.trans (Kp.ext hE)
                replace hN2 := hN2.ext hE
                replace hTr_w135 := hTr_w135.trans (Kp.ext hE)
                replace hA10 := At.ext hA10 hE
                replace hA11 := At.ext hA11 hE
                refine obl_t rfl ?_
                refine opk_norm [] trivial (fun ρq => ?_)
                refine o_alloc Tryd.zeroValue32 (fun b180 w181 hb182 hz183 hk184 hB185 => ?_)
                replace hB185 : Box w181 b180 [.int .i64 (0), .int .i64 (0), .int .i64 (0), .slice none 0 0] 32 := hB185
                have hs_b180 := hK.size
                have hl_b1_b180 := hB6.lt
                have hl_b75_b180 := hB80.lt
                have hl_b82_b180 := hB87.lt
                have ht_hTr_w21_b180 := hTr_w21.size
                have ht_hTr_w99_b180 := hTr_w99.size
                have ht_hTr_w117_b180 := hTr_w117.size
                have ht_hTr_w135_b180 := hTr_w135.size
                replace hK := hK.trans (Kp.ext hk184)
                replace hB6 := hB6.ext hk184
                replace hB80 := hB80.ext hk184
                replace hB87 := hB87.ext hk184
                replace hT := hT.ext hk184
                replace hR5 := hR5.ext hk184
                replace hTr_w21 := hTr_w21.trans (Kp.ext hk184)
                replace hq0 := hq0.ext hk184
                replace hq1 := hq1.ext hk184
                replace hq2 := hq2.ext hk184
                replace hN0 := hN0.ext hk184
                replace hTr_w99 := hTr_w99.trans (Kp.ext hk184)
                replace hN1 := hN1.ext hk184
                replace hTr_w117 := hTr_w117.trans (Kp.ext hk184)
                replace hN2 := hN2.ext hk184
                replace hTr_w135 := hTr_w135.trans (Kp.ext hk184)
                replace hA10 := At.ext hA10 hk184
                replace hA11 := At.ext hA11 hk184
                exact ⟨hk184, b180, rfl, (by have := hK.size; have := hE.size; omega), hB185⟩
              replace hK := hK.trans (Kp.ext hE166)
              replace hB6 := hB6.ext hE166
              replace hB80 := hB80.ext hE166
              replace hB87 := hB87.ext hE166
              replace hT := hT.ext hE166
              replace hR5 := hR5.ext hE166
              replace hTr_w21 := hTr_w21.trans (Kp.ext hE166)
              replace hq0 := hq0.ext hE166
              replace hq1 := hq1.ext hE166
              replace hq2 := hq2.ext hE166
              replace hN0 := hN0.ext hE166
              replace hTr_w99 := hTr_w99.trans (Kp.ext hE166)
              replace hN1 := hN1.ext hE166
              replace hTr_w117 := hTr_w117.trans (Kp.ext hE166)
              replace hN2 := hN2.ext hE166
              replace hTr_w135 := hTr_w135.trans (Kp.ext hE166)
              replace hA10 := At.ext hA10 hE166
              replace hA11 := At.ext hA11 hE166
              obtain ⟨⟨b157, hv11, hge_b157, hB162⟩, -, -, -, -, -, -, -, -, -, -, -, -⟩ := hkn167
              refine rl_norm [(2, .pointer (some ⟨b1, 0, none⟩)), (8, .pointer (some ⟨b75, 0, none⟩)), (11, .pointer (some ⟨b157, 0, none⟩)), (85, .agg #[.int .i64 (x10), .int .i64 (x11), .int .i64 (0), .slice none 0 0])] ⟨rfl, rfl, hv11, rfl, trivial⟩ (fun ρr163q => ?_)
              refine rl0 (o_storeA (vs := [.int .i64 (x10), .int .i64 (x11), .int .i64 (0), .slice none 0 0]) rfl rfl hB162 tyA32 rfl rfl (Nat.le_of_ble_eq_true rfl) (fun w186 hk187 hz188 hB189 => ?_)) rfl
              replace hB189 : Box w186 b157 [.int .i64 (x10), .int .i64 (x11), .int .i64 (0), .slice none 0 0] 32 := hB189
              replace hK := hK.later hk187 (fun i hi hS => by have h1 : i = b157 := hS; omega)
              replace hB6 := hB6.kp hk187 (by show ¬ b1 = b157; omega)
              replace hB80 := hB80.kp hk187 (by show ¬ b75 = b157; omega)
              replace hB87 := hB87.kp hk187 (by show ¬ b82 = b157; omega)
              replace hT := hT.kp hk187 (fun h => by have h2 : (0 : Nat) = b157 := h; omega)
              replace hR5 := hR5.kp hk187 (fun i _ hF hS => by have h1 : w9.heap.size ≤ i ∧ i < w21.heap.size := hF; have h2 : i = b157 := hS; omega)
              replace hTr_w21 := hTr_w21.trans (hk187.mono (fun _ _ _ => trivial))
              replace hq0 := hq0.kp hk187 (fun i _ hF hS => by have h1 : w9.heap.size ≤ i ∧ i < w21.heap.size := hF; have h2 : i = b157 := hS; omega)
              replace hq1 := hq1.kp hk187 (fun i _ hF hS => by have h1 : w9.heap.size ≤ i ∧ i < w21.heap.size := hF; have h2 : i = b157 := hS; omega)
              replace hq2 := hq2.kp hk187 (fun i _ hF hS => by have h1 : w9.heap.size ≤ i ∧ i < w21.heap.size := hF; have h2 : i = b157 := hS; omega)
              replace hN0 := hN0.kp hk187 (fun i _ hF hS => by have h1 : w83.heap.size ≤ i ∧ i < w99.heap.size := hF; have h2 : i = b157 := hS; omega)
              replace hTr_w99 := hTr_w99.trans (hk187.mono (fun _ _ _ => trivial))
              replace hN1 := hN1.kp hk187 (fun i _ hF hS => by have h1 : w102.heap.size ≤ i ∧ i < w117.heap.size := hF; have h2 : i = b157 := hS; omega)
              replace hTr_w117 := hTr_w117.trans (hk187.mono (fun _ _ _ => trivial))
              replace hN2 := hN2.kp hk187 (fun i _ hF hS => by have h1 : w120.heap.size ≤ i ∧ i < w135.heap.size := hF; have h2 : i = b157 := hS; omega)
              replace hTr_w135 := hTr_w135.trans (hk187.mono (fun _ _ _ => trivial))
              replace hB162 := hB189
              refine rl_nil ?_
              refine cw_seq2 rfl ?_
              refine rl (o_idxArr (i := 2) rfl rfl Tryd.underlying84 Tryd.sizeOf83 (by omega) (by omega) ?_) rfl
              refine rl (o_loadB (v := .slice aoN2 ((nums 4 q2.xs).length) cN2) rfl hB80 tyS83 rfl ?_) rfl
              refine rl (o_call (chunkU_ok aoN2 cN2 2 (nums 4 q2.xs) _ _ rfl (by decide)) Tryd.call39 (fun v190 w191 hk192 hv193 => ?_)) rfl
              have hl_b1_w191 := hB6.lt
              have hl_b75_w191 := hB80.lt
              have hl_b82_w191 := hB87.lt
              have hl_b157_w191 := hB162.lt
              have hs_w191 := hK.size
              obtain ⟨bk2, bk3, rfl, hk2, hk3, hBk2, hBk3⟩ := hv193
              replace hK := hK.trans (Kp.ext hk192)
              replace hB6 := hB6.ext hk192
              replace hB80 := hB80.ext hk192
              replace hB87 := hB87.ext hk192
              replace hB162 := hB162.ext hk192
              replace hT := hT.ext hk192
              replace hR5 := hR5.ext hk192
              replace hTr_w21 := hTr_w21.trans (Kp.ext hk192)
              replace hq0 := hq0.ext hk192
              replace hq1 := hq1.ext hk192
              replace hq2 := hq2.ext hk192
              replace hN0 := hN0.ext hk192
              replace hTr_w99 := hTr_w99.trans (Kp.ext hk192)
              replace hN1 := hN1.ext hk192
              replace hTr_w117 := hTr_w117.trans (Kp.ext hk192)
              replace hN2 := hN2.ext hk192
              replace hTr_w135 := hTr_w135.trans (Kp.ext hk192)
              refine rl_nil ?_
              refine cw2_norm [(2, .pointer (some ⟨b1, 0, none⟩)), (8, .pointer (some ⟨b75, 0, none⟩)), (11, .pointer (some ⟨b157, 0, none⟩)), (88, .func (.func 46) #[] #[.pointer (some ⟨bk2, 0, none⟩), .pointer (some ⟨bk3, 0, none⟩)])] ⟨rfl, rfl, rfl, rfl, trivial⟩ (fun ρr194 => ?_)
              have ht_hTr_w21_rf := hTr_w21.size
              have ht_hTr_w99_rf := hTr_w99.size
              have ht_hTr_w117_rf := hTr_w117.size
              have ht_hTr_w135_rf := hTr_w135.size
              have hKa1 := hK
              have hKa1s := hK.size
              replace hK := Kp.refl Non w191
              replace hT := hT
              replace hTr_w21 := hTr_w21
              replace hTr_w99 := hTr_w99
              replace hTr_w117 := hTr_w117
              replace hTr_w135 := hTr_w135
              have hlr_b1 := hB6.lt
              have hlr_b75 := hB80.lt
              have hlr_b82 := hB87.lt
              have hlr_b157 := hB162.lt
              have hlr_bk2 := hBk2.lt
              have hlr_bk3 := hBk3.lt
              have hlN2 : (nums 4 q2.xs).length = q2.xs.length / 4 := nums_len (by decide) (by omega)
              have hnb : ∀ x ∈ nums 4 q2.xs, 0 ≤ x ∧ x < 4294967296 := fun x hx => by have := nums_bound (n := 4) hb2 x hx; rwa [hp4] at this
              have hev : 2 ∣ (nums 4 q2.xs).length := by omega
              refine cw_rf (α := ChunkU (fun k => k = b157 ∨ w191.heap.size ≤ k) w191 2 (nums 4 q2.xs)) (enc := fun x => .slice x.1.ao x.1.xs.length x.1.c) (S := (fun k => k = b157 ∨ w191.heap.size ≤ k)) (All := fun l => l.map (·.1.xs) = chunks 2 ((nums 4 q2.xs).length + 1) (nums 4 q2.xs)) (N := (nums 4 q2.xs).length + 1) (gf := 46) (lb := [.pointer (some ⟨bk2, 0, none⟩), .pointer (some ⟨bk3, 0, none⟩)]) (by decide) rfl Tryd.call46 (fun k hk => .inr hk) (chunkU_seq aoN2 cN2 2 (nums 4 q2.xs) bk2 bk3 (by decide) (by omega) (by show ¬ (bk2 = b157 ∨ w191.heap.size ≤ bk2); omega) (by show ¬ (bk3 = b157 ∨ w191.heap.size ≤ bk3); omega) hBk2 hBk3 (hN2.mono (fun b hb h => ⟨by show ¬ (b = b157 ∨ w191.heap.size ≤ b); have h1 : w120.heap.size ≤ b ∧ b < w135.heap.size := h; omega, hb⟩))) (fun pre W => ∃ (n9 : Nat) (ao9 : Option Addr) (c9 : Nat), (n9 = (pre.map fun r => prm r.1.xs).length) ∧ (Kp (fun k => k = b157 ∨ w191.heap.size ≤ k) w191 W) ∧ (Box W b1 [.int .i64 (0), .int .i64 (0), .int .i64 (0), .slice none 0 0] 32) ∧ (Box W b75 [.slice aoN0 ((nums 8 q0.xs).length) cN0, .slice aoN1 ((nums 4 q1.xs).length) cN1, .slice aoN2 ((nums 4 q2.xs).length) cN2] 84) ∧ (Box W b82 [.int .i64 (8), .int .i64 (4), .int .i64 (4)] 3) ∧ (Box W b157 [.int .i64 (x10), .int .i64 (x11), .int .i64 (0), .slice ao9 n9 c9] 32) ∧ (Box W bk2 [.slice aoN2 ((nums 4 q2.xs).length) cN2] 83) ∧ (Box W bk3 [.int .i64 ((2 : Int))] 3) ∧ (Tab W) ∧ (Kp (fun _ => True) w21 W) ∧ (Rd (fun b => w83.heap.size ≤ b ∧ b < w99.heap.size) W 1 (.slice aoN0 ((nums 8 q0.xs).length) cN0) (((nums 8 q0.xs)).map encU)) ∧ (Kp (fun _ => True) w99 W) ∧ (Rd (fun b => w102.heap.size ≤ b ∧ b < w117.heap.size) W 1 (.slice aoN1 ((nums 4 q1.xs).length) cN1) (((nums 4 q1.xs)).map encU)) ∧ (Kp (fun _ => True) w117 W) ∧ (Rd (fun b => w120.heap.size ≤ b ∧ b < w135.heap.size) W 1 (.slice aoN2 ((nums 4 q2.xs).length) cN2) (((nums 4 q2.xs)).map encU)) ∧ (Kp (fun _ => True) w135 W) ∧ (W.ownsRow w191.heap.size 57 2 (.slice ao9 n9 c9) n9 ((pre.map fun r => prm r.1.xs).flatMap encP))) ?_ ?_ (fun x => upd (upd (upds ρr194 [(2, .pointer (some ⟨b1, 0, none⟩)), (8, .pointer (some ⟨b75, 0, none⟩)), (11, .pointer (some ⟨b157, 0, none⟩)), (88, .func (.func 46) #[] #[.pointer (some ⟨bk2, 0, none⟩), .pointer (some ⟨bk3, 0, none⟩)])]) 89 (.slice x.1.ao x.1.xs.length x.1.c)) 12 (.slice x.1.ao x.1.xs.length x.1.c)) ?_ ?_ ?_
              · exact ownFrom_of (fun pre W W' t ⟨n9, ao9, c9, hn9, hK, hB6, hB80, hB87, hB162, hBk2, hBk3, hT, hTr_w21, hN0, hTr_w99, hN1, hTr_w117, hN2, hTr_w135, hO⟩ => ⟨n9, ao9, c9, hn9, hK.turn t (Nat.le_refl _), hB6.turn t, hB80.turn t, hB87.turn t, hB162.turn t, hBk2.turn t, hBk3.turn t, hT.turn t, hTr_w21.turn t (by omega), hN0.turn t, hTr_w99.turn t (by omega), hN1.turn t, hTr_w117.turn t (by omega), hN2.turn t, hTr_w135.turn t (by omega), own_turn hO t⟩)
              · exact ⟨0, none, 0, rfl, Kp.refl _ _, hB6, hB80, hB87, hB162, hBk2, hBk3, hT, hTr_w21, hN0, hTr_w99, hN1, hTr_w117, hN2, hTr_w135, own_nil _ _ _ _⟩
              · intro l x W
                refine cw_region rfl ?_
                refine rl (o_assign (v := .slice x.1.ao x.1.xs.length x.1.c) rfl ?_) rfl
                exact ⟨rfl, rfl, rfl⟩
              · rintro l pre x w195 ⟨n9, ao9, c9, hn9, hK, hB6, hB80, hB87, hB162, hBk2, hBk3, hT, hTr_w21, hN0, hTr_w99, hN1, hTr_w117, hN2, hTr_w135, hO⟩ hlen
                have hK2 := Kp.refl (fun k => (fun k => k = b157 ∨ w191.heap.size ≤ k) k ∧ ∃ cs T f, w195.heap[k]? = some (.cells cs T f)) w195
                have hB0_b157 := hB162
                have hOr_hO := hO
                have hszr := hK.size
                refine cw_norm [(2, .pointer (some ⟨b1, 0, none⟩)), (8, .pointer (some ⟨b75, 0, none⟩)), (11, .pointer (some ⟨b157, 0, none⟩)), (88, .func (.func 46) #[] #[.pointer (some ⟨bk2, 0, none⟩), .pointer (some ⟨bk3, 0, none⟩)]), (89, .slice x.1.ao x.1.xs.length x.1.c), (12, .slice x.1.ao x.1.xs.length x.1.c)] ⟨rfl, rfl, rfl, rfl, rfl, rfl, trivial⟩ (fun ρb => ?_)
                have hx := x.2
                have hxl : x.1.xs.length = 2 := hx.2.2.2.1.resolve_right (fun h => h hev)
                have hX := (hx.2.2.2.2.kp hK (fun b _ h => h.1)).mono (G := fun b => ¬ (b = b157 ∨ w191.heap.size ≤ b)) (fun b _ h => h.1)
                have hpl : n9 ≤ (nums 4 q2.xs).length := by simp at hn9; omega
                refine cw_block ?_
                obtain ⟨b30, o30, x30, hao30, hx30, hA30, hlt_b30, hF_b30⟩ := Rd.getF hX 0 (by omega)
                replace hF_b30 : ¬ (b30 = b157 ∨ w191.heap.size ≤ b30) := hF_b30
                obtain ⟨b31, o31, x31, hao31, hx31, hA31, hlt_b31, hF_b31⟩ := Rd.getF hX 1 (by omega)
                replace hF_b31 : ¬ (b31 = b157 ∨ w191.heap.size ≤ b31) := hF_b31
                have hy30 := hnb x30 (hx.2.2.1 x30 (List.mem_of_getElem? hx30))
                have hy31 := hnb x31 (hx.2.2.1 x31 (List.mem_of_getElem? hx31))
                have hprm : prm x.1.xs = ⟨x30, x31⟩ := by simp [prm, hx30, hx31]
                have ht_hTr_w21_d2 := hTr_w21.size
                have ht_hTr_w99_d2 := hTr_w99.size
                have ht_hTr_w117_d2 := hTr_w117.size
                have ht_hTr_w135_d2 := hTr_w135.size
                have hl_b1_d2 := hB6.lt
                have hl_b75_d2 := hB80.lt
                have hl_b82_d2 := hB87.lt
                have hl_b157_d2 := hB162.lt
                have hl_bk2_d2 := hBk2.lt
                have hl_bk3_d2 := hBk3.lt
                refine cw_norm [(11, .pointer (some ⟨b157, 0, none⟩)), (12, .slice x.1.ao x.1.xs.length x.1.c)] ⟨rfl, rfl, trivial⟩ (fun ρr214 => ?_)
                refine cw_drawn1 [.val (.pointer (some ⟨b157, 3, none⟩)), .val (.slice ao9 n9 c9), .val (.slice x.1.ao x.1.xs.length x.1.c), .val (.pointer (some ⟨b30, o30 + 0 * 1, none⟩)), .val (.int .u64 (x30)), .val (.int .i64 (x30)), .val (.slice x.1.ao x.1.xs.length x.1.c), .val (.pointer (some ⟨b31, o31 + 1 * 1, none⟩)), .val (.int .u64 (x31)), .val (.int .i64 (x31)), .val (.agg #[.int .i64 (x30), .int .i64 (x31)]), .fact (fun v w' => ∃ (b208 : Nat), v = .slice ((some ⟨b208, 0, none⟩)) 1 1 ∧ (w195.heap.size ≤ b208) ∧ (Box w' b208 [.int .i64 (x30), .int .i64 (x31)] 57))] [[], [0], [], [2], [2, 3], [2, 3, 4], [], [6], [6, 7], [6, 7, 8], [2, 3, 4, 5, 6, 7, 8, 9], [2, 3, 4, 5, 6, 7, 8, 9, 10], [0, 1, 2, 3, 4, 5, 6, 7, 8, 9, 10, 11], [0, 1, 2, 3, 4, 5, 6, 7, 8, 9, 10, 11, 12], [0, 1, 2, 3, 4, 5, 6, 7, 8, 9, 10, 11, 12, 13]] 12 mixed (by kernel_rfl) ⟨trivial, trivial, trivial, trivial, trivial, trivial, trivial, trivial, trivial, trivial, trivial, (fun v w w' ⟨b208, hv, hge_b208, hB213⟩ hk => ⟨b208, hv, hge_b208, hB213.ext hk⟩), trivial⟩ ⟨⟨⟨⟨⟨⟨⟨⟨⟨⟨⟨⟨trivial, ?_⟩, ?_⟩, ?_⟩, ?_⟩, ?_⟩, ?_⟩, ?_⟩, ?_⟩, ?_⟩, ?_⟩, ?_⟩, ?_⟩ (fun w215 vs216 hE217 hkn218 => ?_)
                · refine obl_mk rfl (fun w215k vs hE hkn => ?_)
                  replace hK := hK.trans (Kp.ext hE)
                  replace hK2 := hK2.trans (Kp.ext hE)
                  replace hB6 := hB6.ext hE
                  replace hB80 := hB80.ext hE
                  replace hB87 := hB87.ext hE
                  replace hB162 := hB162.ext hE
                  replace hBk2 := hBk2.ext hE
                  replace hBk3 := hBk3.ext hE
                  replace hT := hT.ext hE
                  replace hTr_w21 := hTr_w21.trans (Kp.ext hE)
                  replace hN0 := hN0.ext hE
                  replace hTr_w99 := hTr_w99.trans (Kp.ext hE)
                  replace hN1 := hN1.ext hE
                  replace hTr_w117 := hTr_w117.trans (Kp.ext hE)
                  replace hN2 := hN2.ext hE
                  replace hTr_w135 := hTr_w135.trans (Kp.ext hE)
                  replace hO := own_kp hO hE (fun _ _ _ x => x)
                  replace hX := hX.ext hE
                  replace hA30 := At.ext hA30 hE
                  replace hA31 := At.ext hA31 hE
                  refine obl_t rfl ?_
                  refine opk_norm [(11, .pointer (some ⟨b157, 0, none⟩))] ⟨rfl, trivial⟩ (fun ρq => ?_)
                  refine o_field rfl fa32_3 ?_
                  exact ⟨Kp.refl _ _, rfl⟩
                · refine obl_mk rfl (fun w215k vs hE hkn => ?_)
                  replace hK := hK.trans (Kp.ext hE)
                  replace hK2 := hK2.trans (Kp.ext hE)
                  replace hB6 := hB6.ext hE
                  replace hB80 := hB80.ext hE
                  replace hB87 := hB87.ext hE
                  replace hB162 := hB162.ext hE
                  replace hBk2 := hBk2.ext hE
                  replace hBk3 := hBk3.ext hE
                  replace hT := hT.ext hE
                  replace hTr_w21 := hTr_w21.trans (Kp.ext hE)
                  replace hN0 := hN0.ext hE
                  replace hTr_w99 := hTr_w99.trans (Kp.ext hE)
                  replace hN1 := hN1.ext hE
                  replace hTr_w117 := hTr_w117.trans (Kp.ext hE)
                  replace hN2 := hN2.ext hE
                  replace hTr_w135 := hTr_w135.trans (Kp.ext hE)
                  replace hO := own_kp hO hE (fun _ _ _ x => x)
                  replace hX := hX.ext hE
                  replace hA30 := At.ext hA30 hE
                  replace hA31 := At.ext hA31 hE
                  refine obl_t rfl ?_
                  refine opk_norm [(90, .pointer (some ⟨b157, 3, none⟩))] ⟨rfl, trivial⟩ (fun ρq => ?_)
                  refine o_loadB (v := .slice ao9 n9 c9) rfl hB162 tyS30 rfl ?_
                  exact ⟨Kp.refl _ _, rfl⟩
                · refine obl_mk rfl (fun w215k vs hE hkn => ?_)
                  replace hK := hK.trans (Kp.ext hE)
                  replace hK2 := hK2.trans (Kp.ext hE)
                  replace hB6 := hB6.ext hE
                  replace hB80 := hB80.ext hE
                  replace hB87 := hB87.ext hE
                  replace hB162 := hB162.ext hE
                  replace hBk2 := hBk2.ext hE
                  replace hBk3 := hBk3.ext hE
                  replace hT := hT.ext hE
                  replace hTr_w21 := hTr_w21.trans (Kp.ext hE)
                  replace hN0 := hN0.ext hE
                  replace hTr_w99 := hTr_w99.trans (Kp.ext hE)
                  replace hN1 := hN1.ext hE
                  replace hTr_w117 := hTr_w117.trans (Kp.ext hE)
                  replace hN2 := hN2.ext hE
                  replace hTr_w135 := hTr_w135.trans (Kp.ext hE)
                  replace hO := own_kp hO hE (fun _ _ _ x => x)
                  replace hX := hX.ext hE
                  replace hA30 := At.ext hA30 hE
                  replace hA31 := At.ext hA31 hE
                  refine obl_t rfl ?_
                  refine opk_norm [(12, .slice x.1.ao x.1.xs.length x.1.c)] ⟨rfl, trivial⟩ (fun ρq => ?_)
                  refine o_move (v := .slice x.1.ao x.1.xs.length x.1.c) rfl ?_
                  exact ⟨Kp.refl _ _, rfl⟩
                · refine obl_mk rfl (fun w215k vs hE hkn => ?_)
                  replace hK := hK.trans (Kp.ext hE)
                  replace hK2 := hK2.trans (Kp.ext hE)
                  replace hB6 := hB6.ext hE
                  replace hB80 := hB80.ext hE
                  replace hB87 := hB87.ext hE
                  replace hB162 := hB162.ext hE
                  replace hBk2 := hBk2.ext hE
                  replace hBk3 := hBk3.ext hE
                  replace hT := hT.ext hE
                  replace hTr_w21 := hTr_w21.trans (Kp.ext hE)
                  replace hN0 := hN0.ext hE
                  replace hTr_w99 := hTr_w99.trans (Kp.ext hE)
                  replace hN1 := hN1.ext hE
                  replace hTr_w117 := hTr_w117.trans (Kp.ext hE)
                  replace hN2 := hN2.ext hE
                  replace hTr_w135 := hTr_w135.trans (Kp.ext hE)
                  replace hO := own_kp hO hE (fun _ _ _ x => x)
                  replace hX := hX.ext hE
                  replace hA30 := At.ext hA30 hE
                  replace hA31 := At.ext hA31 hE
                  refine obl_t rfl ?_
                  refine opk_norm [(92, .slice x.1.ao x.1.xs.length x.1.c)] ⟨rfl, trivial⟩ (fun ρq => ?_)
                  refine o_idxAt 0 rfl rfl Tryd.underlying83 Tryd.sizeOf36 hao30 (by omega) (by omega) ?_
                  exact ⟨Kp.refl _ _, rfl⟩
                · refine obl_mk rfl (fun w215k vs hE hkn => ?_)
                  replace hK := hK.trans (Kp.ext hE)
                  replace hK2 := hK2.trans (Kp.ext hE)
                  replace hB6 := hB6.ext hE
                  replace hB80 := hB80.ext hE
                  replace hB87 := hB87.ext hE
                  replace hB162 := hB162.ext hE
                  replace hBk2 := hBk2.ext hE
                  replace hBk3 := hBk3.ext hE
                  replace hT := hT.ext hE
                  replace hTr_w21 := hTr_w21.trans (Kp.ext hE)
                  replace hN0 := hN0.ext hE
                  replace hTr_w99 := hTr_w99.trans (Kp.ext hE)
                  replace hN1 := hN1.ext hE
                  replace hTr_w117 := hTr_w117.trans (Kp.ext hE)
                  replace hN2 := hN2.ext hE
                  replace hTr_w135 := hTr_w135.trans (Kp.ext hE)
                  replace hO := own_kp hO hE (fun _ _ _ x => x)
                  replace hX := hX.ext hE
                  replace hA30 := At.ext hA30 hE
                  replace hA31 := At.ext hA31 hE
                  refine obl_t rfl ?_
                  refine opk_norm [(93, .pointer (some ⟨b30, o30 + 0 * 1, none⟩))] ⟨rfl, trivial⟩ (fun ρq => ?_)
                  refine o_load (v := .int .u64 (x30)) rfl tyS36 (hA30 0 _ rfl) ?_
                  exact ⟨Kp.refl _ _, rfl⟩
                · refine obl_mk rfl (fun w215k vs hE hkn => ?_)
                  replace hK := hK.trans (Kp.ext hE)
                  replace hK2 := hK2.trans (Kp.ext hE)
                  replace hB6 := hB6.ext hE
                  replace hB80 := hB80.ext hE
                  replace hB87 := hB87.ext hE
                  replace hB162 := hB162.ext hE
                  replace hBk2 := hBk2.ext hE
                  replace hBk3 := hBk3.ext hE
                  replace hT := hT.ext hE
                  replace hTr_w21 := hTr_w21.trans (Kp.ext hE)
                  replace hN0 := hN0.ext hE
                  replace hTr_w99 := hTr_w99.trans (Kp.ext hE)
                  replace hN1 := hN1.ext hE
                  replace hTr_w117 := hTr_w117.trans (Kp.ext hE)
                  replace hN2 := hN2.ext hE
                  replace hTr_w135 := hTr_w135.trans (Kp.ext hE)
                  replace hO := own_kp hO hE (fun _ _ _ x => x)
                  replace hX := hX.ext hE
                  replace hA30 := At.ext hA30 hE
                  replace hA31 := At.ext hA31 hE
                  refine obl_t rfl ?_
                  refine opk_norm [(94, .int .u64 (x30))] ⟨rfl, trivial⟩ (fun ρq => ?_)
                  refine o_convI (a := x30) rfl ⟨_, Tryd.underlying36⟩ Tryd.underlying3 (by show (-9223372036854775808 : Int) ≤ _; omega) (by show _ ≤ (9223372036854775807 : Int); omega) ?_
                  exact ⟨Kp.refl _ _, rfl⟩
                · refine obl_mk rfl (fun w215k vs hE hkn => ?_)
                  replace hK := hK.trans (Kp.ext hE)
                  replace hK2 := hK2.trans (Kp.ext hE)
                  replace hB6 := hB6.ext hE
                  replace hB80 := hB80.ext hE
                  replace hB87 := hB87.ext hE
                  replace hB162 := hB162.ext hE
                  replace hBk2 := hBk2.ext hE
                  replace hBk3 := hBk3.ext hE
                  replace hT := hT.ext hE
                  replace hTr_w21 := hTr_w21.trans (Kp.ext hE)
                  replace hN0 := hN0.ext hE
                  replace hTr_w99 := hTr_w99.trans (Kp.ext hE)
                  replace hN1 := hN1.ext hE
                  replace hTr_w117 := hTr_w117.trans (Kp.ext hE)
                  replace hN2 := hN2.ext hE
                  replace hTr_w135 := hTr_w135.trans (Kp.ext hE)
                  replace hO := own_kp hO hE (fun _ _ _ x => x)
                  replace hX := hX.ext hE
                  replace hA30 := At.ext hA30 hE
                  replace hA31 := At.ext hA31 hE
                  refine obl_t rfl ?_
                  refine opk_norm [(12, .slice x.1.ao x.1.xs.length x.1.c)] ⟨rfl, trivial⟩ (fun ρq => ?_)
                  refine o_move (v := .slice x.1.ao x.1.xs.length x.1.c) rfl ?_
                  exact ⟨Kp.refl _ _, rfl⟩
                · refine obl_mk rfl (fun w215k vs hE hkn => ?_)
                  replace hK := hK.trans (Kp.ext hE)
                  replace hK2 := hK2.trans (Kp.ext hE)
                  replace hB6 := hB6.ext hE
                  replace hB80 := hB80.ext hE
                  replace hB87 := hB87.ext hE
                  replace hB162 := hB162.ext hE
                  replace hBk2 := hBk2.ext hE
                  replace hBk3 := hBk3.ext hE
                  replace hT := hT.ext hE
                  replace hTr_w21 := hTr_w21.trans (Kp.ext hE)
                  replace hN0 := hN0.ext hE
                  replace hTr_w99 := hTr_w99.trans (Kp.ext hE)
                  replace hN1 := hN1.ext hE
                  replace hTr_w117 := hTr_w117.trans (Kp.ext hE)
                  replace hN2 := hN2.ext hE
                  replace hTr_w135 := hTr_w135.trans (Kp.ext hE)
                  replace hO := own_kp hO hE (fun _ _ _ x => x)
                  replace hX := hX.ext hE
                  replace hA30 := At.ext hA30 hE
                  replace hA31 := At.ext hA31 hE
                  refine obl_t rfl ?_
                  refine opk_norm [(96, .slice x.1.ao x.1.xs.length x.1.c)] ⟨rfl, trivial⟩ (fun ρq => ?_)
                  refine o_idxAt 1 rfl rfl Tryd.underlying83 Tryd.sizeOf36 hao31 (by omega) (by omega) ?_
                  exact ⟨Kp.refl _ _, rfl⟩
                · refine obl_mk rfl (fun w215k vs hE hkn => ?_)
                  replace hK := hK.trans (Kp.ext hE)
                  replace hK2 := hK2.trans (Kp.ext hE)
                  replace hB6 := hB6.ext hE
                  replace hB80 := hB80.ext hE
                  replace hB87 := hB87.ext hE
                  replace hB162 := hB162.ext hE
                  replace hBk2 := hBk2.ext hE
                  replace hBk3 := hBk3.ext hE
                  replace hT := hT.ext hE
                  replace hTr_w21 := hTr_w21.trans (Kp.ext hE)
                  replace hN0 := hN0.ext hE
                  replace hTr_w99 := hTr_w99.trans (Kp.ext hE)
                  replace hN1 := hN1.ext hE
                  replace hTr_w117 := hTr_w117.trans (Kp.ext hE)
                  replace hN2 := hN2.ext hE
                  replace hTr_w135 := hTr_w135.trans (Kp.ext hE)
                  replace hO := own_kp hO hE (fun _ _ _ x => x)
                  replace hX := hX.ext hE
                  replace hA30 := At.ext hA30 hE
                  replace hA31 := At.ext hA31 hE
                  refine obl_t rfl ?_
                  refine opk_norm [(97, .pointer (some ⟨b31, o31 + 1 * 1, none⟩))] ⟨rfl, trivial⟩ (fun ρq => ?_)
                  refine o_load (v := .int .u64 (x31)) rfl tyS36 (hA31 0 _ rfl) ?_
                  exact ⟨Kp.refl _ _, rfl⟩
                · refine obl_mk rfl (fun w215k vs hE hkn => ?_)
                  replace hK := hK.trans (Kp.ext hE)
                  replace hK2 := hK2.trans (Kp.ext hE)
                  replace hB6 := hB6.ext hE
                  replace hB80 := hB80.ext hE
                  replace hB87 := hB87.ext hE
                  replace hB162 := hB162.ext hE
                  replace hBk2 := hBk2.ext hE
                  replace hBk3 := hBk3.ext hE
                  replace hT := hT.ext hE
                  replace hTr_w21 := hTr_w21.trans (Kp.ext hE)
                  replace hN0 := hN0.ext hE
                  replace hTr_w99 := hTr_w99.trans (Kp.ext hE)
                  replace hN1 := hN1.ext hE
                  replace hTr_w117 := hTr_w117.trans (Kp.ext hE)
                  replace hN2 := hN2.ext hE
                  replace hTr_w135 := hTr_w135.trans (Kp.ext hE)
                  replace hO := own_kp hO hE (fun _ _ _ x => x)
                  replace hX := hX.ext hE
                  replace hA30 := At.ext hA30 hE
                  replace hA31 := At.ext hA31 hE
                  refine obl_t rfl ?_
                  refine opk_norm [(98, .int .u64 (x31))] ⟨rfl, trivial⟩ (fun ρq => ?_)
                  refine o_convI (a := x31) rfl ⟨_, Tryd.underlying36⟩ Tryd.underlying3 (by show (-9223372036854775808 : Int) ≤ _; omega) (by show _ ≤ (9223372036854775807 : Int); omega) ?_
                  exact ⟨Kp.refl _ _, rfl⟩
                · refine obl_mk rfl (fun w215k vs hE hkn => ?_)
                  replace hK := hK.trans (Kp.ext hE)
                  replace hK2 := hK2.trans (Kp.ext hE)
                  replace hB6 := hB6.ext hE
                  replace hB80 := hB80.ext hE
                  replace hB87 := hB87.ext hE
                  replace hB162 := hB162.ext hE
                  replace hBk2 := hBk2.ext hE
                  replace hBk3 := hBk3.ext hE
                  replace hT := hT.ext hE
                  replace hTr_w21 := hTr_w21.trans (Kp.ext hE)
                  replace hN0 := hN0.ext hE
                  replace hTr_w99 := hTr_w99.trans (Kp.ext hE)
                  replace hN1 := hN1.ext hE
                  replace hTr_w117 := hTr_w117.trans (Kp.ext hE)
                  replace hN2 := hN2.ext hE
                  replace hTr_w135 := hTr_w135.trans (Kp.ext hE)
                  replace hO := own_kp hO hE (fun _ _ _ x => x)
                  replace hX := hX.ext hE
                  replace hA30 := At.ext hA30 hE
                  replace hA31 := At.ext hA31 hE
                  refine obl_t rfl ?_
                  refine opk_norm [(95, .int .i64 (x30)), (99, .int .i64 (x31))] ⟨rfl, rfl, trivial⟩ (fun ρq => ?_)
                  refine o_build (cs := [.int .i64 (x30), .int .i64 (x31)]) bt57 rfl ?_
                  exact ⟨Kp.refl _ _, rfl⟩
                · refine obl_mk rfl (fun w215k vs hE hkn => ?_)
                  replace hK := hK.trans (Kp.ext hE)
                  replace hK2 := hK2.trans (Kp.ext hE)
                  replace hB6 := hB6.ext hE
                  replace hB80 := hB80.ext hE
                  replace hB87 := hB87.ext hE
                  replace hB162 := hB162.ext hE
                  replace hBk2 := hBk2.ext hE
                  replace hBk3 := hBk3.ext hE
                  replace hT := hT.ext hE
                  replace hTr_w21 := hTr_w21.trans (Kp.ext hE)
                  replace hN0 := hN0.ext hE
                  replace hTr_w99 := hTr_w99.trans (Kp.ext hE)
                  replace hN1 := hN1.ext hE
                  replace hTr_w117 := hTr_w117.trans (Kp.ext hE)
                  replace hN2 := hN2.ext hE
                  replace hTr_w135 := hTr_w135.trans (Kp.ext hE)
                  replace hO := own_kp hO hE (fun _ _ _ x => x)
                  replace hX := hX.ext hE
                  replace hA30 := At.ext hA30 hE
                  replace hA31 := At.ext hA31 hE
                  refine obl_t rfl ?_
                  refine opk_norm [(100, .agg #[.int .i64 (x30), .int .i64 (x31)])] ⟨rfl, trivial⟩ (fun ρq => ?_)
                  refine o_buildSlice (vs := [.agg #[.int .i64 (x30), .int .i64 (x31)]]) (n := 1) rfl Tryd.underlying30 elt57 rfl rfl (Nat.le_of_ble_eq_true rfl) (fun b231 w232 hb233 hz234 hk235 hB236 => ?_)
                  replace hB236 : Box w232 b231 [.int .i64 (x30), .int .i64 (x31)] 57 := hB236
                  have hs_b231 := hK.size
                  have hl_b1_b231 := hB6.lt
                  have hl_b75_b231 := hB80.lt
                  have hl_b82_b231 := hB87.lt
                  have hl_b157_b231 := hB162.lt
                  have hl_bk2_b231 := hBk2.lt
                  have hl_bk3_b231 := hBk3.lt
                  have ht_hTr_w21_b231 := hTr_w21.size
                  have ht_hTr_w99_b231 := hTr_w99.size
                  have ht_hTr_w117_b231 := hTr_w117.size
                  have ht_hTr_w135_b231 := hTr_w135.size
                  replace hK := hK.trans (Kp.ext hk235)
                  replace hK2 := hK2.trans (Kp.ext hk235)
                  replace hB6 := hB6.ext hk235
                  replace hB80 := hB80.ext hk235
                  replace hB87 := hB87.ext hk235
                  replace hB162 := hB162.ext hk235
                  replace hBk2 := hBk2.ext hk235
                  replace hBk3 := hBk3.ext hk235
                  replace hT := hT.ext hk235
                  replace hTr_w21 := hTr_w21.trans (Kp.ext hk235)
                  replace hN0 := hN0.ext hk235
                  replace hTr_w99 := hTr_w99.trans (Kp.ext hk235)
                  replace hN1 := hN1.ext hk235
                  replace hTr_w117 := hTr_w117.trans (Kp.ext hk235)
                  replace hN2 := hN2.ext hk235
                  replace hTr_w135 := hTr_w135.trans (Kp.ext hk235)
                  replace hO := own_kp hO hk235 (fun _ _ _ x => x)
                  replace hX := hX.ext hk235
                  replace hA30 := At.ext hA30 hk235
                  replace hA31 := At.ext hA31 hk235
                  exact ⟨hk235, b231, rfl, (by have := hK.size; have := hE.size; omega), hB236⟩
                replace hK := hK.trans (Kp.ext hE217)
                replace hK2 := hK2.trans (Kp.ext hE217)
                replace hB6 := hB6.ext hE217
                replace hB80 := hB80.ext hE217
                replace hB87 := hB87.ext hE217
                replace hB162 := hB162.ext hE217
                replace hBk2 := hBk2.ext hE217
                replace hBk3 := hBk3.ext hE217
                replace hT := hT.ext hE217
                replace hTr_w21 := hTr_w21.trans (Kp.ext hE217)
                replace hN0 := hN0.ext hE217
                replace hTr_w99 := hTr_w99.trans (Kp.ext hE217)
                replace hN1 := hN1.ext hE217
                replace hTr_w117 := hTr_w117.trans (Kp.ext hE217)
                replace hN2 := hN2.ext hE217
                replace hTr_w135 := hTr_w135.trans (Kp.ext hE217)
                replace hO := own_kp hO hE217 (fun _ _ _ x => x)
                replace hX := hX.ext hE217
                replace hA30 := At.ext hA30 hE217
                replace hA31 := At.ext hA31 hE217
                obtain ⟨⟨b208, hv11, hge_b208, hB213⟩, -, -, -, -, -, -, -, -, -, -, -, -⟩ := hkn218
                refine rl_norm [(11, .pointer (some ⟨b157, 0, none⟩)), (91, .slice ao9 n9 c9), (101, .slice ((some ⟨b208, 0, none⟩)) 1 1)] ⟨rfl, rfl, hv11, trivial⟩ (fun ρr214q => ?_)
                have htk_q242 := hTr_w21.size
                have htk_q243 := hTr_w99.size
                have htk_q244 := hTr_w117.size
                have htk_q245 := hTr_w135.size
                refine rl (o_append (news := [.int .i64 (x30), .int .i64 (x31)]) rfl rfl Tryd.underlying30 elt57 hO (hB213.at_ 0 2) rfl (by simp [one]) (by omega) (by omega) (by have := hK.size; omega) (fun ao237 c238 w239 hk240 hO241 => ?_)) rfl
                replace hK := hK.later hk240 (fun i hi hS => by have := (own_lt hO i hS).1; omega)
                replace hK2 := hK2.later hk240 (fun i hi hS => by obtain ⟨h1, _, cur, h2⟩ := own_lt hOr_hO i hS; exact ⟨.inr h1, _, _, _, h2⟩)
                clear hB213
                replace hB6 := hB6.grown hO (by decide) hk240
                replace hB80 := hB80.grown hO (by decide) hk240
                replace hB87 := hB87.grown hO (by decide) hk240
                replace hB162 := hB162.grown hO (by decide) hk240
                replace hBk2 := hBk2.grown hO (by decide) hk240
                replace hBk3 := hBk3.grown hO (by decide) hk240
                replace hT := hT.kp hk240 (fun h => by have := (own_lt hO 0 h).1; omega)
                replace hTr_w21 := hTr_w21.trans (hk240.mono (fun _ _ _ => trivial))
                replace hN0 := hN0.kp hk240 (fun i _ hF hS => by have h1 : w83.heap.size ≤ i ∧ i < w99.heap.size := hF; have h2 := (own_lt hO i hS).1; omega)
                replace hTr_w99 := hTr_w99.trans (hk240.mono (fun _ _ _ => trivial))
                replace hN1 := hN1.kp hk240 (fun i _ hF hS => by have h1 : w102.heap.size ≤ i ∧ i < w117.heap.size := hF; have h2 := (own_lt hO i hS).1; omega)
                replace hTr_w117 := hTr_w117.trans (hk240.mono (fun _ _ _ => trivial))
                replace hN2 := hN2.kp hk240 (fun i _ hF hS => by have h1 : w120.heap.size ≤ i ∧ i < w135.heap.size := hF; have h2 := (own_lt hO i hS).1; omega)
                replace hTr_w135 := hTr_w135.trans (hk240.mono (fun _ _ _ => trivial))
                replace hX := hX.kp hk240 (fun i _ hF hS => by have h1 : ¬ (i = b157 ∨ w191.heap.size ≤ i) := hF; have h2 := (own_lt hO i hS).1; omega)
                have hOn : w239.ownsRow w191.heap.size 57 2 (.slice ao237 (n9 + 1) c238) (n9 + 1) (((pre ++ [x]).map fun r => prm r.1.xs).flatMap encP) := by simpa [encP, hprm] using hO241
                have hO := hOn; clear hOn
                refine rl (o_field rfl fa32_3 ?_) rfl
                refine rl0 (o_store1 (v := .slice ao237 (n9 + 1) c238) rfl rfl hB162 tyS30 rfl (Nat.le_of_ble_eq_true rfl) (fun w246 hk247 hz248 hB249 => ?_)) rfl
                replace hB249 : Box w246 b157 [.int .i64 (x10), .int .i64 (x11), .int .i64 (0), .slice ao237 (n9 + 1) c238] 32 := hB249
                replace hK := hK.later hk247 (fun i hi hS => .inl hS)
                replace hK2 := hK2.later hk247 (fun i hi hS => ⟨.inl hS, _, _, _, (show i = b157 from hS) ▸ hB0_b157⟩)
                replace hB6 := hB6.kp hk247 (by show ¬ b1 = b157; omega)
                replace hB80 := hB80.kp hk247 (by show ¬ b75 = b157; omega)
                replace hB87 := hB87.kp hk247 (by show ¬ b82 = b157; omega)
                replace hBk2 := hBk2.kp hk247 (by show ¬ bk2 = b157; omega)
                replace hBk3 := hBk3.kp hk247 (by show ¬ bk3 = b157; omega)
                replace hT := hT.kp hk247 (fun h => by have h2 : (0 : Nat) = b157 := h; omega)
                replace hTr_w21 := hTr_w21.trans (hk247.mono (fun _ _ _ => trivial))
                replace hN0 := hN0.kp hk247 (fun i _ hF hS => by have h1 : w83.heap.size ≤ i ∧ i < w99.heap.size := hF; have h2 : i = b157 := hS; omega)
                replace hTr_w99 := hTr_w99.trans (hk247.mono (fun _ _ _ => trivial))
                replace hN1 := hN1.kp hk247 (fun i _ hF hS => by have h1 : w102.heap.size ≤ i ∧ i < w117.heap.size := hF; have h2 : i = b157 := hS; omega)
                replace hTr_w117 := hTr_w117.trans (hk247.mono (fun _ _ _ => trivial))
                replace hN2 := hN2.kp hk247 (fun i _ hF hS => by have h1 : w120.heap.size ≤ i ∧ i < w135.heap.size := hF; have h2 : i = b157 := hS; omega)
                replace hTr_w135 := hTr_w135.trans (hk247.mono (fun _ _ _ => trivial))
                replace hX := hX.kp hk247 (fun i _ hF hS => by have h1 : ¬ (i = b157 ∨ w191.heap.size ≤ i) := hF; have h2 : i = b157 := hS; omega)
                replace hO := own_other hO hB162 (by decide) hk247
                replace hB162 := hB249
                refine rl_nil ?_
                refine k_bn ?_
                exact ⟨rfl, keeps_of hK2 (fun k h => h.2), hK2.mono (fun k _ h => h.1), n9 + 1, _, _, by simp; simpa using hn9, hK, hB6, hB80, hB87, hB162, hBk2, hBk3, hT, hTr_w21, hN0, hTr_w99, hN1, hTr_w117, hN2, hTr_w135, hO⟩
              · rintro D ys w250 hD hAll ⟨n9, ao9, c9, hn9, hK, hB6, hB80, hB87, hB162, hBk2, hBk3, hT, hTr_w21, hN0, hTr_w99, hN1, hTr_w117, hN2, hTr_w135, hO⟩ hmk
                replace hK := hKa1.later hK (fun i hi hS => by rcases hS with h | h <;> omega)
                have hprs : (ys.map fun r => prm r.1.xs) = (pairs (nums 4 q2.xs)) := by
                  obtain ⟨m, hm⟩ := hev
                  rw [← pairs_chunks ((nums 4 q2.xs).length + 1) m _ hm (by omega), ← hAll, List.map_map]; rfl
                rw [hprs] at hO hn9
                have hpn : (pairs (nums 4 q2.xs)).length ≤ 1000000 := by
                  obtain ⟨m, hm⟩ := hev
                  rw [pairs_len m _ hm]; omega
                refine cw_seq ?_
                refine cw_seq ?_
                refine cw_region rfl ?_
                refine rl (o_loadBA (ds := [.int .i64 (x10), .int .i64 (x11), .int .i64 (0), .slice ao9 n9 c9]) rfl hB162 tyA32 rfl rfl ?_) rfl
                refine rl (o_call (check_ok x10 x11 0 ao9 c9 (pairs (nums 4 q2.xs)) _ _ hn9 (by omega) (Rd.of_ownF hO (fun _ => rfl) hn9)) Tryd.call9 (fun v251 w252 hk253 hv254 => ?_)) rfl
                have hl_b1_w252 := hB6.lt
                have hl_b75_w252 := hB80.lt
                have hl_b82_w252 := hB87.lt
                have hl_b157_w252 := hB162.lt
                have hl_bk2_w252 := hBk2.lt
                have hl_bk3_w252 := hBk3.lt
                have hs_w252 := hK.size
                obtain rfl := hv254
                replace hK := hK.trans (Kp.ext hk253)
                replace hB6 := hB6.ext hk253
                replace hB80 := hB80.ext hk253
                replace hB87 := hB87.ext hk253
                replace hB162 := hB162.ext hk253
                replace hBk2 := hBk2.ext hk253
                replace hBk3 := hBk3.ext hk253
                replace hT := hT.ext hk253
                replace hTr_w21 := hTr_w21.trans (Kp.ext hk253)
                replace hN0 := hN0.ext hk253
                replace hTr_w99 := hTr_w99.trans (Kp.ext hk253)
                replace hN1 := hN1.ext hk253
                replace hTr_w117 := hTr_w117.trans (Kp.ext hk253)
                replace hN2 := hN2.ext hk253
                replace hTr_w135 := hTr_w135.trans (Kp.ext hk253)
                replace hO := own_kp hO hk253 (fun _ _ _ x => x)
                replace hmk := mark_ext hmk hk253
                refine rl (o_not rfl ?_) rfl
                refine rl_nil ?_
                refine k_tn ?_
                refine cw_norm [(2, .pointer (some ⟨b1, 0, none⟩)), (8, .pointer (some ⟨b75, 0, none⟩)), (11, .pointer (some ⟨b157, 0, none⟩)), (106, .bool (!(check ⟨x10, x11, 0, (pairs (nums 4 q2.xs))⟩)))] ⟨rfl, rfl, rfl, rfl, trivial⟩ (fun ρn255 => ?_)
                refine cw_cond rfl (fun h256 => ?_) (fun h256 => ?_)
                · skip
                  refine cw_reg rfl ?_
                  refine rl (o_build (cs := [.int .i64 (0), .int .i64 (0), .int .i64 (0), .slice none 0 0]) bt32 rfl ?_) rfl
                  refine rl0 (o_storeA (vs := [.int .i64 (0), .int .i64 (0), .int .i64 (0), .slice none 0 0]) rfl rfl hB6 tyA32 rfl rfl (Nat.le_of_ble_eq_true rfl) (fun w257 hk258 hz259 hB260 => ?_)) rfl
                  replace hB260 : Box w257 b1 [.int .i64 (0), .int .i64 (0), .int .i64 (0), .slice none 0 0] 32 := hB260
                  replace hK := hK.later hk258 (fun i hi hS => by have h1 : i = b1 := hS; omega)
                  replace hB80 := hB80.kp hk258 (by show ¬ b75 = b1; omega)
                  replace hB87 := hB87.kp hk258 (by show ¬ b82 = b1; omega)
                  replace hB162 := hB162.kp hk258 (by show ¬ b157 = b1; omega)
                  replace hBk2 := hBk2.kp hk258 (by show ¬ bk2 = b1; omega)
                  replace hBk3 := hBk3.kp hk258 (by show ¬ bk3 = b1; omega)
                  replace hT := hT.kp hk258 (fun h => by have h2 : (0 : Nat) = b1 := h; omega)
                  replace hTr_w21 := hTr_w21.trans (hk258.mono (fun _ _ _ => trivial))
                  replace hN0 := hN0.kp hk258 (fun i _ hF hS => by have h1 : w83.heap.size ≤ i ∧ i < w99.heap.size := hF; have h2 : i = b1 := hS; omega)
                  replace hTr_w99 := hTr_w99.trans (hk258.mono (fun _ _ _ => trivial))
                  replace hN1 := hN1.kp hk258 (fun i _ hF hS => by have h1 : w102.heap.size ≤ i ∧ i < w117.heap.size := hF; have h2 : i = b1 := hS; omega)
                  replace hTr_w117 := hTr_w117.trans (hk258.mono (fun _ _ _ => trivial))
                  replace hN2 := hN2.kp hk258 (fun i _ hF hS => by have h1 : w120.heap.size ≤ i ∧ i < w135.heap.size := hF; have h2 : i = b1 := hS; omega)
                  replace hTr_w135 := hTr_w135.trans (hk258.mono (fun _ _ _ => trivial))
                  replace hO := own_other hO hB6 (by decide) hk258
                  replace hmk := mark_upd hmk hk258 hB6
                  replace hB6 := hB260
                  refine rl (o_assign (v := .int .u64 (0)) rfl ?_) rfl
                  refine rl (o_assign (v := .int .i64 (11)) rfl ?_) rfl
                  refine rl_nil ?_
                  refine cw_ret ?_
                  refine k_tr ?_
                  obtain ⟨w261, hWF⟩ : ∃ W, W = w257.putObj D (.deferred none) := ⟨_, rfl⟩
                  have t := turn_mark hmk hWF
                  replace hK := hK.turn t (by omega)
                  replace hB6 := hB6.turn t
                  replace hB80 := hB80.turn t
                  replace hB87 := hB87.turn t
                  replace hB162 := hB162.turn t
                  replace hBk2 := hBk2.turn t
                  replace hBk3 := hBk3.turn t
                  replace hT := hT.turn t
                  replace hTr_w21 := hTr_w21.turn t (by omega)
                  replace hN0 := hN0.turn t
                  replace hTr_w99 := hTr_w99.turn t (by omega)
                  replace hN1 := hN1.turn t
                  replace hTr_w117 := hTr_w117.turn t (by omega)
                  replace hN2 := hN2.turn t
                  replace hTr_w135 := hTr_w135.turn t (by omega)
                  replace hO := own_turn hO t
                  refine ret_F (v := .tuple #[.agg #[.int .i64 (0), .int .i64 (0), .int .i64 (0), .slice none 0 0], .int .u64 (0), .int .i64 (11)]) hmk hWF (res_ok (vs := [.agg #[.int .i64 (0), .int .i64 (0), .int .i64 (0), .slice none 0 0], .int .u64 (0), .int .i64 (11)]) rfl ⟨⟨_, rfl, run_loadA tyA32 rfl (hB6.at_ 0 4)⟩, rfl, rfl, trivial⟩) hK ?_
                  have hj := jget_form hds hps ⟨hl0, hl1, hl2⟩
                  simp only [List.getD_eq_getElem?_getD, hx10, hx11, Option.getD_some] at hj
                  rw [if_neg (by simp_all)] at hj
                  rw [hj]; exact ⟨0, none, 0, rfl, rfl, Rd.nil _ _⟩
                · skip
                  refine cw_skip ?_
                  refine k_tn ?_
                  refine cw_norm [(2, .pointer (some ⟨b1, 0, none⟩)), (8, .pointer (some ⟨b75, 0, none⟩)), (11, .pointer (some ⟨b157, 0, none⟩))] ⟨rfl, rfl, rfl, trivial⟩ (fun ρn262 => ?_)
                  have hlN0 : (nums 8 q0.xs).length = 1 := nums_len (by decide) (by omega)
                  obtain ⟨b20, o20, x20, hao20, hx20, hA20, hlt_b20, hF_b20⟩ := Rd.getF hN0 0 (by omega)
                  replace hF_b20 : w83.heap.size ≤ b20 ∧ b20 < w99.heap.size := hF_b20
                  have ht_hTr_w21_d3 := hTr_w21.size
                  have ht_hTr_w99_d3 := hTr_w99.size
                  have ht_hTr_w117_d3 := hTr_w117.size
                  have ht_hTr_w135_d3 := hTr_w135.size
                  have hl_b1_d3 := hB6.lt
                  have hl_b75_d3 := hB80.lt
                  have hl_b82_d3 := hB87.lt
                  have hl_b157_d3 := hB162.lt
                  have hl_bk2_d3 := hBk2.lt
                  have hl_bk3_d3 := hBk3.lt
                  refine cw_norm [(2, .pointer (some ⟨b1, 0, none⟩)), (8, .pointer (some ⟨b75, 0, none⟩)), (11, .pointer (some ⟨b157, 0, none⟩))] ⟨rfl, rfl, rfl, trivial⟩ (fun ρr273 => ?_)
                  have hlT := hB6.lt
                  refine cw_drawnT (fun k => k = b1) 5 [.val (.agg #[.int .i64 (x10), .int .i64 (x11), .int .i64 (0), .slice ao9 n9 c9]), .val (.pointer (some ⟨b75, 0, none⟩)), .val (.slice aoN0 ((nums 8 q0.xs).length) cN0), .val (.pointer (some ⟨b20, o20 + 0 * 1, none⟩)), .val (.int .u64 (x20)), .fact (fun v w' => v = undef ∧ (Box w' b1 [.int .i64 (x10), .int .i64 (x11), .int .i64 (0), .slice ao9 n9 c9] 32))] [[], [], [1], [1, 2], [1, 2, 3], [0], [0, 1, 2, 3, 4, 5], [0, 1, 2, 3, 4, 5, 6]] 6 mixed (by kernel_rfl) ⟨trivial, trivial, trivial, trivial, trivial, (upT_one (fun v w w' ⟨hv, hBu⟩ hk => ⟨hv, hBu.ext hk⟩) rfl), trivial⟩ ⟨⟨⟨⟨⟨⟨trivial, ?_⟩, ?_⟩, ?_⟩, ?_⟩, ?_⟩, ?_⟩ (fun w274 vs275 hE276 hkn277 => ?_)
                  · refine oblT_mk rfl (fun w274k vs hE hX hkn => ?_)
                    replace hK := hK.later hE (fun i hi hS => by have h1 : i = b1 := hS; omega)
                    replace hB80 := hB80.kp hE (by show ¬ b75 = b1; omega)
                    replace hB87 := hB87.kp hE (by show ¬ b82 = b1; omega)
                    replace hB162 := hB162.kp hE (by show ¬ b157 = b1; omega)
                    replace hBk2 := hBk2.kp hE (by show ¬ bk2 = b1; omega)
                    replace hBk3 := hBk3.kp hE (by show ¬ bk3 = b1; omega)
                    replace hT := hT.kp hE (fun h => by have h2 : (0 : Nat) = b1 := h; omega)
                    replace hTr_w21 := hTr_w21.trans (hE.mono (fun _ _ _ => trivial))
                    replace hN0 := hN0.kp hE (fun i _ hF hS => by have h1 : w83.heap.size ≤ i ∧ i < w99.heap.size := hF; have h2 : i = b1 := hS; omega)
                    replace hTr_w99 := hTr_w99.trans (hE.mono (fun _ _ _ => trivial))
                    replace hN1 := hN1.kp hE (fun i _ hF hS => by have h1 : w102.heap.size ≤ i ∧ i < w117.heap.size := hF; have h2 : i = b1 := hS; omega)
                    replace hTr_w117 := hTr_w117.trans (hE.mono (fun _ _ _ => trivial))
                    replace hN2 := hN2.kp hE (fun i _ hF hS => by have h1 : w120.heap.size ≤ i ∧ i < w135.heap.size := hF; have h2 : i = b1 := hS; omega)
                    replace hTr_w135 := hTr_w135.trans (hE.mono (fun _ _ _ => trivial))
                    replace hO := own_other hO hB6 (by decide) hE
                    replace hmk := mark_upd hmk hE hB6
                    replace hA20 := hA20.of_block (hE.block _ (by show b20 < _; omega) (by show ¬ b20 = b1; omega))
                    refine oblT_t rfl ?_
                    refine opk_norm [(11, .pointer (some ⟨b157, 0, none⟩))] ⟨rfl, trivial⟩ (fun ρq => ?_)
                    refine o_loadBA (ds := [.int .i64 (x10), .int .i64 (x11), .int .i64 (0), .slice ao9 n9 c9]) rfl hB162 tyA32 rfl rfl ?_
                    exact ⟨Kp.refl _ _, rfl⟩
                  · refine oblT_mk rfl (fun w274k vs hE hX hkn => ?_)
                    replace hK := hK.later hE (fun i hi hS => by have h1 : i = b1 := hS; omega)
                    replace hB80 := hB80.kp hE (by show ¬ b75 = b1; omega)
                    replace hB87 := hB87.kp hE (by show ¬ b82 = b1; omega)
                    replace hB162 := hB162.kp hE (by show ¬ b157 = b1; omega)
                    replace hBk2 := hBk2.kp hE (by show ¬ bk2 = b1; omega)
                    replace hBk3 := hBk3.kp hE (by show ¬ bk3 = b1; omega)
                    replace hT := hT.kp hE (fun h => by have h2 : (0 : Nat) = b1 := h; omega)
                    replace hTr_w21 := hTr_w21.trans (hE.mono (fun _ _ _ => trivial))
                    replace hN0 := hN0.kp hE (fun i _ hF hS => by have h1 : w83.heap.size ≤ i ∧ i < w99.heap.size := hF; have h2 : i = b1 := hS; omega)
                    replace hTr_w99 := hTr_w99.trans (hE.mono (fun _ _ _ => trivial))
                    replace hN1 := hN1.kp hE (fun i _ hF hS => by have h1 : w102.heap.size ≤ i ∧ i < w117.heap.size := hF; have h2 : i = b1 := hS; omega)
                    replace hTr_w117 := hTr_w117.trans (hE.mono (fun _ _ _ => trivial))
                    replace hN2 := hN2.kp hE (fun i _ hF hS => by have h1 : w120.heap.size ≤ i ∧ i < w135.heap.size := hF; have h2 : i = b1 := hS; omega)
                    replace hTr_w135 := hTr_w135.trans (hE.mono (fun _ _ _ => trivial))
                    replace hO := own_other hO hB6 (by decide) hE
                    replace hmk := mark_upd hmk hE hB6
                    replace hA20 := hA20.of_block (hE.block _ (by show b20 < _; omega) (by show ¬ b20 = b1; omega))
                    refine oblT_t rfl ?_
                    refine opk_norm [(8, .pointer (some ⟨b75, 0, none⟩))] ⟨rfl, trivial⟩ (fun ρq => ?_)
                    refine o_idxArr (i := 0) rfl rfl Tryd.underlying84 Tryd.sizeOf83 (by omega) (by omega) ?_
                    exact ⟨Kp.refl _ _, rfl⟩
                  · refine oblT_mk rfl (fun w274k vs hE hX hkn => ?_)
                    replace hK := hK.later hE (fun i hi hS => by have h1 : i = b1 := hS; omega)
                    replace hB80 := hB80.kp hE (by show ¬ b75 = b1; omega)
                    replace hB87 := hB87.kp hE (by show ¬ b82 = b1; omega)
                    replace hB162 := hB162.kp hE (by show ¬ b157 = b1; omega)
                    replace hBk2 := hBk2.kp hE (by show ¬ bk2 = b1; omega)
                    replace hBk3 := hBk3.kp hE (by show ¬ bk3 = b1; omega)
                    replace hT := hT.kp hE (fun h => by have h2 : (0 : Nat) = b1 := h; omega)
                    replace hTr_w21 := hTr_w21.trans (hE.mono (fun _ _ _ => trivial))
                    replace hN0 := hN0.kp hE (fun i _ hF hS => by have h1 : w83.heap.size ≤ i ∧ i < w99.heap.size := hF; have h2 : i = b1 := hS; omega)
                    replace hTr_w99 := hTr_w99.trans (hE.mono (fun _ _ _ => trivial))
                    replace hN1 := hN1.kp hE (fun i _ hF hS => by have h1 : w102.heap.size ≤ i ∧ i < w117.heap.size := hF; have h2 : i = b1 := hS; omega)
                    replace hTr_w117 := hTr_w117.trans (hE.mono (fun _ _ _ => trivial))
                    replace hN2 := hN2.kp hE (fun i _ hF hS => by have h1 : w120.heap.size ≤ i ∧ i < w135.heap.size := hF; have h2 : i = b1 := hS; omega)
                    replace hTr_w135 := hTr_w135.trans (hE.mono (fun _ _ _ => trivial))
                    replace hO := own_other hO hB6 (by decide) hE
                    replace hmk := mark_upd hmk hE hB6
                    replace hA20 := hA20.of_block (hE.block _ (by show b20 < _; omega) (by show ¬ b20 = b1; omega))
                    refine oblT_t rfl ?_
                    refine opk_norm [(109, .pointer (some ⟨b75, 0, none⟩))] ⟨rfl, trivial⟩ (fun ρq => ?_)
                    refine o_loadB (v := .slice aoN0 ((nums 8 q0.xs).length) cN0) rfl hB80 tyS83 rfl ?_
                    exact ⟨Kp.refl _ _, rfl⟩
                  · refine oblT_mk rfl (fun w274k vs hE hX hkn => ?_)
                    replace hK := hK.later hE (fun i hi hS => by have h1 : i = b1 := hS; omega)
                    replace hB80 := hB80.kp hE (by show ¬ b75 = b1; omega)
                    replace hB87 := hB87.kp hE (by show ¬ b82 = b1; omega)
                    replace hB162 := hB162.kp hE (by show ¬ b157 = b1; omega)
                    replace hBk2 := hBk2.kp hE (by show ¬ bk2 = b1; omega)
                    replace hBk3 := hBk3.kp hE (by show ¬ bk3 = b1; omega)
                    replace hT := hT.kp hE (fun h => by have h2 : (0 : Nat) = b1 := h; omega)
                    replace hTr_w21 := hTr_w21.trans (hE.mono (fun _ _ _ => trivial))
                    replace hN0 := hN0.kp hE (fun i _ hF hS => by have h1 : w83.heap.size ≤ i ∧ i < w99.heap.size := hF; have h2 : i = b1 := hS; omega)
                    replace hTr_w99 := hTr_w99.trans (hE.mono (fun _ _ _ => trivial))
                    replace hN1 := hN1.kp hE (fun i _ hF hS => by have h1 : w102.heap.size ≤ i ∧ i < w117.heap.size := hF; have h2 : i = b1 := hS; omega)
                    replace hTr_w117 := hTr_w117.trans (hE.mono (fun _ _ _ => trivial))
                    replace hN2 := hN2.kp hE (fun i _ hF hS => by have h1 : w120.heap.size ≤ i ∧ i < w135.heap.size := hF; have h2 : i = b1 := hS; omega)
                    replace hTr_w135 := hTr_w135.trans (hE.mono (fun _ _ _ => trivial))
                    replace hO := own_other hO hB6 (by decide) hE
                    replace hmk := mark_upd hmk hE hB6
                    replace hA20 := hA20.of_block (hE.block _ (by show b20 < _; omega) (by show ¬ b20 = b1; omega))
                    refine oblT_t rfl ?_
                    refine opk_norm [(110, .slice aoN0 ((nums 8 q0.xs).length) cN0)] ⟨rfl, trivial⟩ (fun ρq => ?_)
                    refine o_idxAt 0 rfl rfl Tryd.underlying83 Tryd.sizeOf36 hao20 (by omega) (by omega) ?_
                    exact ⟨Kp.refl _ _, rfl⟩
                  · refine oblT_mk rfl (fun w274k vs hE hX hkn => ?_)
                    replace hK := hK.later hE (fun i hi hS => by have h1 : i = b1 := hS; omega)
                    replace hB80 := hB80.kp hE (by show ¬ b75 = b1; omega)
                    replace hB87 := hB87.kp hE (by show ¬ b82 = b1; omega)
                    replace hB162 := hB162.kp hE (by show ¬ b157 = b1; omega)
                    replace hBk2 := hBk2.kp hE (by show ¬ bk2 = b1; omega)
                    replace hBk3 := hBk3.kp hE (by show ¬ bk3 = b1; omega)
                    replace hT := hT.kp hE (fun h => by have h2 : (0 : Nat) = b1 := h; omega)
                    replace hTr_w21 := hTr_w21.trans (hE.mono (fun _ _ _ => trivial))
                    replace hN0 := hN0.kp hE (fun i _ hF hS => by have h1 : w83.heap.size ≤ i ∧ i < w99.heap.size := hF; have h2 : i = b1 := hS; omega)
                    replace hTr_w99 := hTr_w99.trans (hE.mono (fun _ _ _ => trivial))
                    replace hN1 := hN1.kp hE (fun i _ hF hS => by have h1 : w102.heap.size ≤ i ∧ i < w117.heap.size := hF; have h2 : i = b1 := hS; omega)
                    replace hTr_w117 := hTr_w117.trans (hE.mono (fun _ _ _ => trivial))
                    replace hN2 := hN2.kp hE (fun i _ hF hS => by have h1 : w120.heap.size ≤ i ∧ i < w135.heap.size := hF; have h2 : i = b1 := hS; omega)
                    replace hTr_w135 := hTr_w135.trans (hE.mono (fun _ _ _ => trivial))
                    replace hO := own_other hO hB6 (by decide) hE
                    replace hmk := mark_upd hmk hE hB6
                    replace hA20 := hA20.of_block (hE.block _ (by show b20 < _; omega) (by show ¬ b20 = b1; omega))
                    refine oblT_t rfl ?_
                    refine opk_norm [(111, .pointer (some ⟨b20, o20 + 0 * 1, none⟩))] ⟨rfl, trivial⟩ (fun ρq => ?_)
                    refine o_load (v := .int .u64 (x20)) rfl tyS36 (hA20 0 _ rfl) ?_
                    exact ⟨Kp.refl _ _, rfl⟩
                  · refine oblT_mk rfl (fun w274k vs hE hX hkn => ?_)
                    replace hE := hX rfl
                    replace hK := hK.trans (Kp.ext hE)
                    replace hB6 := hB6.ext hE
                    replace hB80 := hB80.ext hE
                    replace hB87 := hB87.ext hE
                    replace hB162 := hB162.ext hE
                    replace hBk2 := hBk2.ext hE
                    replace hBk3 := hBk3.ext hE
                    replace hT := hT.ext hE
                    replace hTr_w21 := hTr_w21.trans (Kp.ext hE)
                    replace hN0 := hN0.ext hE
                    replace hTr_w99 := hTr_w99.trans (Kp.ext hE)
                    replace hN1 := hN1.ext hE
                    replace hTr_w117 := hTr_w117.trans (Kp.ext hE)
                    replace hN2 := hN2.ext hE
                    replace hTr_w135 := hTr_w135.trans (Kp.ext hE)
                    replace hO := own_kp hO hE (fun _ _ _ x => x)
                    replace hmk := mark_ext hmk hE
                    replace hA20 := At.ext hA20 hE
                    refine oblT_s rfl ?_
                    refine opk_norm [(2, .pointer (some ⟨b1, 0, none⟩)), (108, .agg #[.int .i64 (x10), .int .i64 (x11), .int .i64 (0), .slice ao9 n9 c9])] ⟨rfl, rfl, trivial⟩ (fun ρq => ?_)
                    refine o_storeA (vs := [.int .i64 (x10), .int .i64 (x11), .int .i64 (0), .slice ao9 n9 c9]) rfl rfl hB6 tyA32 rfl rfl (Nat.le_of_ble_eq_true rfl) (fun w284 hk285 hz286 hB287 => ?_)
                    replace hB287 : Box w284 b1 [.int .i64 (x10), .int .i64 (x11), .int .i64 (0), .slice ao9 n9 c9] 32 := hB287
                    replace hK := hK.later hk285 (fun i hi hS => by have h1 : i = b1 := hS; omega)
                    replace hB80 := hB80.kp hk285 (by show ¬ b75 = b1; omega)
                    replace hB87 := hB87.kp hk285 (by show ¬ b82 = b1; omega)
                    replace hB162 := hB162.kp hk285 (by show ¬ b157 = b1; omega)
                    replace hBk2 := hBk2.kp hk285 (by show ¬ bk2 = b1; omega)
                    replace hBk3 := hBk3.kp hk285 (by show ¬ bk3 = b1; omega)
                    replace hT := hT.kp hk285 (fun h => by have h2 : (0 : Nat) = b1 := h; omega)
                    replace hTr_w21 := hTr_w21.trans (hk285.mono (fun _ _ _ => trivial))
                    replace hN0 := hN0.kp hk285 (fun i _ hF hS => by have h1 : w83.heap.size ≤ i ∧ i < w99.heap.size := hF; have h2 : i = b1 := hS; omega)
                    replace hTr_w99 := hTr_w99.trans (hk285.mono (fun _ _ _ => trivial))
                    replace hN1 := hN1.kp hk285 (fun i _ hF hS => by have h1 : w102.heap.size ≤ i ∧ i < w117.heap.size := hF; have h2 : i = b1 := hS; omega)
                    replace hTr_w117 := hTr_w117.trans (hk285.mono (fun _ _ _ => trivial))
                    replace hN2 := hN2.kp hk285 (fun i _ hF hS => by have h1 : w120.heap.size ≤ i ∧ i < w135.heap.size := hF; have h2 : i = b1 := hS; omega)
                    replace hTr_w135 := hTr_w135.trans (hk285.mono (fun _ _ _ => trivial))
                    replace hO := own_other hO hB6 (by decide) hk285
                    replace hmk := mark_upd hmk hk285 hB6
                    replace hB6 := hB287
                    exact ⟨hk285, rfl, hB6⟩
                  replace hK := hK.later hE276 (fun i hi hS => by have h1 : i = b1 := hS; omega)
                  replace hB80 := hB80.kp hE276 (by show ¬ b75 = b1; omega)
                  replace hB87 := hB87.kp hE276 (by show ¬ b82 = b1; omega)
                  replace hB162 := hB162.kp hE276 (by show ¬ b157 = b1; omega)
                  replace hBk2 := hBk2.kp hE276 (by show ¬ bk2 = b1; omega)
                  replace hBk3 := hBk3.kp hE276 (by show ¬ bk3 = b1; omega)
                  replace hT := hT.kp hE276 (fun h => by have h2 : (0 : Nat) = b1 := h; omega)
                  replace hTr_w21 := hTr_w21.trans (hE276.mono (fun _ _ _ => trivial))
                  replace hN0 := hN0.kp hE276 (fun i _ hF hS => by have h1 : w83.heap.size ≤ i ∧ i < w99.heap.size := hF; have h2 : i = b1 := hS; omega)
                  replace hTr_w99 := hTr_w99.trans (hE276.mono (fun _ _ _ => trivial))
                  replace hN1 := hN1.kp hE276 (fun i _ hF hS => by have h1 : w102.heap.size ≤ i ∧ i < w117.heap.size := hF; have h2 : i = b1 := hS; omega)
                  replace hTr_w117 := hTr_w117.trans (hE276.mono (fun _ _ _ => trivial))
                  replace hN2 := hN2.kp hE276 (fun i _ hF hS => by have h1 : w120.heap.size ≤ i ∧ i < w135.heap.size := hF; have h2 : i = b1 := hS; omega)
                  replace hTr_w135 := hTr_w135.trans (hE276.mono (fun _ _ _ => trivial))
                  replace hO := own_other hO hB6 (by decide) hE276
                  replace hmk := mark_upd hmk hE276 hB6
                  replace hA20 := hA20.of_block (hE276.block _ (by show b20 < _; omega) (by show ¬ b20 = b1; omega))
                  obtain ⟨⟨hv5, hBu⟩, -, -, -, -, -, -⟩ := hkn277
                  refine rl_norm [(2, .pointer (some ⟨b1, 0, none⟩)), (112, .int .u64 (x20))] ⟨rfl, rfl, trivial⟩ (fun ρr273q => ?_)
                  refine rl (o_assign (v := .int .u64 (x20)) rfl ?_) rfl
                  refine rl (o_assign (v := .int .i64 (0)) rfl ?_) rfl
                  refine rl_nil ?_
                  refine cw_ret ?_
                  obtain ⟨w288, hWF⟩ : ∃ W, W = w274.putObj D (.deferred none) := ⟨_, rfl⟩
                  have t := turn_mark hmk hWF
                  replace hK := hK.turn t (by omega)
                  replace hB80 := hB80.turn t
                  replace hB87 := hB87.turn t
                  replace hB162 := hB162.turn t
                  replace hBk2 := hBk2.turn t
                  replace hBk3 := hBk3.turn t
                  replace hBu := hBu.turn t
                  replace hT := hT.turn t
                  replace hTr_w21 := hTr_w21.turn t (by omega)
                  replace hN0 := hN0.turn t
                  replace hTr_w99 := hTr_w99.turn t (by omega)
                  replace hN1 := hN1.turn t
                  replace hTr_w117 := hTr_w117.turn t (by omega)
                  replace hN2 := hN2.turn t
                  replace hTr_w135 := hTr_w135.turn t (by omega)
                  replace hO := own_turn hO t
                  refine ret_F (v := .tuple #[.agg #[.int .i64 (x10), .int .i64 (x11), .int .i64 (0), .slice ao9 n9 c9], .int .u64 (x20), .int .i64 (0)]) hmk hWF (res_ok (vs := [.agg #[.int .i64 (x10), .int .i64 (x11), .int .i64 (0), .slice ao9 n9 c9], .int .u64 (x20), .int .i64 (0)]) rfl ⟨⟨_, rfl, run_loadA tyA32 rfl (hBu.at_ 0 4)⟩, rfl, rfl, trivial⟩) hK ?_
                  have hj := jget_form hds hps ⟨hl0, hl1, hl2⟩
                  simp only [List.getD_eq_getElem?_getD, hx10, hx11, hx20, Option.getD_some] at hj
                  rw [if_pos (by simp_all)] at hj
                  rw [hj]; exact ⟨n9, ao9, c9, rfl, hn9, (Rd.of_ownF hO (fun _ => rfl) hn9).mono (fun b _ h => by have h1 := h; omega)⟩
end Go.Proofs.YtcmlklnelipacaaDoor

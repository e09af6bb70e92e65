/- Each car that moves has a permit or must stop, and so on: MendSafe returns true: for every input, the table of package crc being what the program lays. -/
import Derived.Test.YtcmlklnelipacaaDoorMsafe
import Derived.Test.YtcmlklnelipacaaDoorShut
import Derived.Test.YtcmlklnelipacaaDoorTie
import Derived.Test.YtcmlklnelipacaaDoorCards
import Derived.SevenTiedAt
import Derived.JoinedOf
set_option linter.unusedVariables false
set_option linter.unusedSimpArgs false
set_option maxRecDepth 100000
namespace Go.Proofs.YtcmlklnelipacaaDoor
open Go Go.RowKit Go.ChangeShapes Go.WideShapes Go.ChangeAt Go.WideMaps Go.WideElems Plain
set_option maxRecDepth 100000 in
set_option maxHeartbeats 4000000 in
theorem mendSafe_lifted (os : Os) (started : os.Started) (H : Type) (enc : TypeId × Value → H) :
    ReturnsInHanded {} Tryd.checked os 5 .any (fun w args => (Rows.mendSafeSpec.pre enc Tryd.prog Tryd.f5 [] false w args ∧ laidMetH Tryd.prog laidL w) ∧ sizedMet enc Tryd.prog Tryd.f5 (OpenSpec.ofChange Rows.mendSafeSpec) false w args)
      (Rows.mendSafeSpec.post enc Tryd.prog Tryd.f5 false true false false) := by
  refine returnsInHanded_of_change_and (C := Tryd.checked) (X := fun w _ => laidMetH Tryd.prog laidL w) (fun _ _ _ hh h => h.of_heap hh) own started (by kernel_rfl) Tryd.func5
    (ChangeSpec.witness_shaped (enc := enc) (C := Tryd.checked) (os := os) (X := fun w _ => laidMetH Tryd.prog laidL w) false (World.doorLaid Tryd.prog 400 os) #[.agg #[.int .i64 0, .int .i64 0, .int .i64 0, .slice none 0 0], .int .i64 0, .slice none 0 0, .int .i64 0] 8 rfl (World.shaped_of_RefB (by kernel_rfl) (by kernel_rfl)) (by kernel_rfl) (by kernel_rfl) (by kernel_rfl) (door_met os _)) ?_
  intro W base args ds gs before hval0 hW _ _ hL _
  have hval : ∀ (j : Nat) t v, Tryd.f5.params[j]? = some t → args[j]? = some v → Value.okWide Tryd.prog W .any base t v := hval0
  have hW2 := hW
  obtain ⟨p, q, hA0, hV, hpq, hfz, hnd⟩ := hW
  have hA : DataW.TrodAll enc Tryd.prog W 0 (fun _ => true) true Tryd.f5.params.toList args.toList ds p := hA0
  rw [Tryd.params5] at hA hval
  obtain ⟨rfl, rfl⟩ := trodVars_none hV
  obtain ⟨v0, vs0, d0, ds0, p0, q0, ha0, hd0, hp0, h0, hA⟩ := trodAll_cons hA
  obtain ⟨v1, vs1, d1, ds1, p1, q1, ha1, hd1, hp1, h1, hA⟩ := trodAll_cons hA
  obtain ⟨v2, vs2, d2, ds2, p2, q2, ha2, hd2, hp2, h2, hA⟩ := trodAll_cons hA
  obtain ⟨v3, vs3, d3, ds3, p3, q3, ha3, hd3, hp3, h3, hA⟩ := trodAll_cons hA
  obtain ⟨hav, hdv, hpv⟩ := trodAll_nil hA
  have hargs : args = #[v0, v1, v2, v3] := by
    apply Array.toList_inj.1
    rw [ha0, ha1, ha2, ha3, hav]
  have hds : ds = [d0, d1, d2, d3] := by rw [hd0, hd1, hd2, hd3, hdv]
  clear hA hA0 hval0 ha0
  subst hargs
  subst hds
  obtain ⟨x0, e0, g0⟩ := Trod.open1 op_led h0
  obtain rfl := agg_of_cells (by rw [Tryd.underlying32]) (hval 0 32 v0 rfl rfl) e0
  obtain ⟨x1, e1, g1⟩ := Trod.open1 op_int h1
  obtain rfl := one_of_cells (by rw [Tryd.underlying3]) (hval 1 3 v1 rfl rfl) e1 rfl
  obtain ⟨x2, e2, ⟨g2, g2b, _⟩⟩ := Trod.open1 op_movs h2
  obtain rfl := one_of_cells (by rw [Tryd.underlying49]) (hval 2 49 v2 rfl rfl) e2 rfl
  obtain ⟨x3, e3, g3⟩ := Trod.open1 op_int h3
  obtain rfl := one_of_cells (by rw [Tryd.underlying3]) (hval 3 3 v3 rfl rfl) e3 rfl
  have hT := tab_of_laid hL
  refine Calls.mono (msafe_ok x0.b x0.m x0.c x0.s.ao x0.s.c x0.s.xs x1 x2.ao x2.c x2.xs x3 _ _ W rfl rfl (by have := g0.2; unfold maxLen at this; omega) (fun m hm => g2b m hm) g3 hT g0.1 g2) ?_
  rintro e W' ⟨v, rfl, hE, rfl⟩
  exact ⟨_, rfl, post_law laidOut (by kernel_rfl) rfl rfl Tryd.underlying4 hW2 hE rfl⟩
theorem mendSafe_holds : Rows.MendSafeSaid :=
  OpenClaim.holds_of_wide 5 Tryd.f5 rfl rfl rfl rfl rfl rfl rfl ⟨rfl, rfl, rfl, rfl, rfl⟩ rfl rfl rfl rfl rfl (by kernel_rfl) Tryd.func5 (by kernel_rfl)
    (of_decide_eq_true (by kernel_rfl)) (by unfold Func.isWrapper; first | (rw [if_pos (by decide +kernel)]; kernel_rfl) | (rw [if_neg (by decide +kernel)]; exact ⟨rfl, rfl⟩))
    (fun os started H enc _ => mendSafe_lifted os started H enc)
theorem mendSafe_card : Rows.MendSafeCardSaid :=
  Claim7.holds_tied_plain_at .later [] [.data] true (true, "b10c4205ca2c117f0495df49990555f56813d6858bdba1e2d0fd704ed80273e5") false
    mendSafe_holds (fun _ h => by cases h) (by kernel_rfl) (fun _ h => by cases h) mendSafe_row_tie rfl ⟨rfl, rfl⟩ (by kernel_rfl) rfl
    (fun f fn hf hfn => by
      obtain rfl : f = 5 := Option.some.inj ((show Tryd.prog.funcNamed "paternoster/paternosterlaw17.MendSafe" = some 5 by kernel_rfl).symm.trans hf) |>.symm
      obtain rfl : fn = Tryd.f5 := (Option.some.inj (Tryd.func5.symm.trans hfn)).symm
      exact ⟨by kernel_rfl, fun j t ht => by
        rw [Tryd.params5] at ht
        have hm : t ∈ [32, 3, 49, 3] := by simpa using Array.mem_of_getElem? ht
        have hall : ([32, 3, 49, 3].all fun u => !Tryd.prog.wantsStandIn u) = true := by kernel_rfl
        exact (show Tryd.prog.wantsStandIn t = false by simpa using List.all_eq_true.1 hall t hm)⟩)
    (by kernel_rfl)
#print axioms mendSafe_card
end Go.Proofs.YtcmlklnelipacaaDoor

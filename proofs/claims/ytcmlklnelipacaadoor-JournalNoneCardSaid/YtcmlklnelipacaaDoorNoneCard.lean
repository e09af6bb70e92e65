/- Of two places of which none counts nothing is told, and so on: JournalNone returns true: for every input, the table of package crc being what the program lays. -/
import Derived.Test.YtcmlklnelipacaaDoorNone
import Derived.Test.YtcmlklnelipacaaDoorShut
import Derived.Test.YtcmlklnelipacaaDoorTie
import Derived.Test.YtcmlklnelipacaaDoorCards
import Derived.SevenTiedAt
import Derived.JoinedOf
set_option linter.unusedVariables false
set_option linter.unusedSimpArgs false
set_option maxRecDepth 100000
namespace Go.Proofs.YtcmlklnelipacaaDoor
open Go Go.RowKit Go.ChangeShapes Go.WideShapes Go.ChangeAt Go.WideMaps Go.WideElems Plain
set_option maxRecDepth 100000 in
set_option maxHeartbeats 4000000 in
theorem journalNone_lifted (os : Os) (started : os.Started) (H : Type) (enc : TypeId × Value → H) :
    ReturnsInHanded {} Tryd.checked os 4 .any (fun w args => (Rows.journalNoneSpec.pre enc Tryd.prog Tryd.f4 [] false w args ∧ laidMetH Tryd.prog laidL w) ∧ sizedMet enc Tryd.prog Tryd.f4 (OpenSpec.ofChange Rows.journalNoneSpec) false w args)
      (Rows.journalNoneSpec.post enc Tryd.prog Tryd.f4 false true false false) := by
  refine returnsInHanded_of_change_and (C := Tryd.checked) (X := fun w _ => laidMetH Tryd.prog laidL w) (fun _ _ _ hh h => h.of_heap hh) own started (by kernel_rfl) Tryd.func4
    (ChangeSpec.witness_shaped (enc := enc) (C := Tryd.checked) (os := os) (X := fun w _ => laidMetH Tryd.prog laidL w) false (World.doorLaid Tryd.prog 400 os) #[.slice none 0 0, .slice none 0 0, .agg #[.int .i64 0, .int .i64 0, .int .i64 0, .slice none 0 0], .int .u16 0] 8 rfl (World.shaped_of_RefB (by kernel_rfl) (by kernel_rfl)) (by kernel_rfl) (by kernel_rfl) (by kernel_rfl) (door_met os _)) ?_
  intro W base args ds gs before hval0 hW _ _ hL _
  have hval : ∀ (j : Nat) t v, Tryd.f4.params[j]? = some t → args[j]? = some v → Value.okWide Tryd.prog W .any base t v := hval0
  have hW2 := hW
  obtain ⟨p, q, hA0, hV, hpq, hfz, hnd⟩ := hW
  have hA : DataW.TrodAll enc Tryd.prog W 0 (fun _ => true) true Tryd.f4.params.toList args.toList ds p := hA0
  rw [Tryd.params4] at hA hval
  obtain ⟨rfl, rfl⟩ := trodVars_none hV
  obtain ⟨v0, vs0, d0, ds0, p0, q0, ha0, hd0, hp0, h0, hA⟩ := trodAll_cons hA
  obtain ⟨v1, vs1, d1, ds1, p1, q1, ha1, hd1, hp1, h1, hA⟩ := trodAll_cons hA
  obtain ⟨v2, vs2, d2, ds2, p2, q2, ha2, hd2, hp2, h2, hA⟩ := trodAll_cons hA
  obtain ⟨v3, vs3, d3, ds3, p3, q3, ha3, hd3, hp3, h3, hA⟩ := trodAll_cons hA
  obtain ⟨hav, hdv, hpv⟩ := trodAll_nil hA
  have hargs : args = #[v0, v1, v2, v3] := by
    apply Array.toList_inj.1
    rw [ha0, ha1, ha2, ha3, hav]
  have hds : ds = [d0, d1, d2, d3] := by rw [hd0, hd1, hd2, hd3, hdv]
  clear hA hA0 hval0 ha0
  subst hargs
  subst hds
  obtain ⟨x0, e0, ⟨g0, g0b, _⟩⟩ := Trod.open1 op_bytes h0
  obtain rfl := one_of_cells (by rw [Tryd.underlying24]) (hval 0 24 v0 rfl rfl) e0 rfl
  obtain ⟨x1, e1, ⟨g1, g1b, _⟩⟩ := Trod.open1 op_bytes h1
  obtain rfl := one_of_cells (by rw [Tryd.underlying24]) (hval 1 24 v1 rfl rfl) e1 rfl
  obtain ⟨x2, e2, g2⟩ := Trod.open1 op_led h2
  obtain rfl := agg_of_cells (by rw [Tryd.underlying32]) (hval 2 32 v2 rfl rfl) e2
  obtain ⟨x3, e3, g3⟩ := Trod.open1 (opens_int Tryd.underlying46) h3
  obtain rfl := one_of_cells (by rw [Tryd.underlying46]) (hval 3 46 v3 rfl rfl) e3 rfl
  have hT := tab_of_laid hL
  refine Calls.mono (none_ok x0.ao x1.ao x0.c x1.c x0.xs x1.xs x2.b x2.m x2.c x2.s.ao x2.s.c x2.s.xs x3 _ _ _ W rfl rfl rfl (isB_of g0b) (isB_of g1b) g3 hT g0 g1 g2.1) ?_
  rintro e W' ⟨v, rfl, hE, rfl⟩
  exact ⟨_, rfl, post_law laidOut (by kernel_rfl) rfl rfl Tryd.underlying4 hW2 hE rfl⟩
theorem journalNone_holds : Rows.JournalNoneSaid :=
  OpenClaim.holds_of_wide 4 Tryd.f4 rfl rfl rfl rfl rfl rfl rfl ⟨rfl, rfl, rfl, rfl, rfl⟩ rfl rfl rfl rfl rfl (by kernel_rfl) Tryd.func4 (by kernel_rfl)
    (of_decide_eq_true (by kernel_rfl)) (by unfold Func.isWrapper; first | (rw [if_pos (by decide +kernel)]; kernel_rfl) | (rw [if_neg (by decide +kernel)]; exact ⟨rfl, rfl⟩))
    (fun os started H enc _ => journalNone_lifted os started H enc)
theorem journalNone_card : Rows.JournalNoneCardSaid :=
  Claim7.holds_tied_plain_at .later [] [.data] true (true, "b10c4205ca2c117f0495df49990555f56813d6858bdba1e2d0fd704ed80273e5") false
    journalNone_holds (fun _ h => by cases h) (by kernel_rfl) (fun _ h => by cases h) journalNone_row_tie rfl ⟨rfl, rfl⟩ (by kernel_rfl) rfl
    (fun f fn hf hfn => by
      obtain rfl : f = 4 := Option.some.inj ((show Tryd.prog.funcNamed "paternoster/paternosterlaw16.JournalNone" = some 4 by kernel_rfl).symm.trans hf) |>.symm
      obtain rfl : fn = Tryd.f4 := (Option.some.inj (Tryd.func4.symm.trans hfn)).symm
      exact ⟨by kernel_rfl, fun j t ht => by
        rw [Tryd.params4] at ht
        have hm : t ∈ [24, 24, 32, 46] := by simpa using Array.mem_of_getElem? ht
        have hall : ([24, 24, 32, 46].all fun u => !Tryd.prog.wantsStandIn u) = true := by kernel_rfl
        exact (show Tryd.prog.wantsStandIn t = false by simpa using List.all_eq_true.1 hall t hm)⟩)
    (by kernel_rfl)
#print axioms journalNone_card
end Go.Proofs.YtcmlklnelipacaaDoor

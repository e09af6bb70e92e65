/- Writes go to both places by turns, and so on: JournalTurns returns true: for every input, the table of package crc being what the program lays. -/
import Derived.Test.YtcmlklnelipacaaDoorTurns
import Derived.Test.YtcmlklnelipacaaDoorShut
import Derived.Test.YtcmlklnelipacaaDoorTie
import Derived.Test.YtcmlklnelipacaaDoorCards
import Derived.SevenTiedAt
import Derived.JoinedOf
set_option linter.unusedVariables false
set_option linter.unusedSimpArgs false
set_option maxRecDepth 100000
namespace Go.Proofs.YtcmlklnelipacaaDoor
open Go Go.RowKit Go.ChangeShapes Go.WideShapes Go.ChangeAt Go.WideMaps Go.WideElems Plain
set_option maxRecDepth 100000 in
set_option maxHeartbeats 4000000 in
theorem journalTurns_lifted (os : Os) (started : os.Started) (H : Type) (enc : TypeId × Value → H) :
    ReturnsInHanded {} Tryd.checked os 3 .any (fun w args => (Rows.journalTurnsSpec.pre enc Tryd.prog Tryd.f3 [] false w args ∧ laidMetH Tryd.prog laidL w) ∧ sizedMet enc Tryd.prog Tryd.f3 (OpenSpec.ofChange Rows.journalTurnsSpec) false w args)
      (Rows.journalTurnsSpec.post enc Tryd.prog Tryd.f3 false true false false) := by
  refine returnsInHanded_of_change_and (C := Tryd.checked) (X := fun w _ => laidMetH Tryd.prog laidL w) (fun _ _ _ hh h => h.of_heap hh) own started (by kernel_rfl) Tryd.func3
    (ChangeSpec.witness_shaped (enc := enc) (C := Tryd.checked) (os := os) (X := fun w _ => laidMetH Tryd.prog laidL w) false (World.doorLaid Tryd.prog 400 os) #[.slice none 0 0] 8 rfl (World.shaped_of_RefB (by kernel_rfl) (by kernel_rfl)) (by kernel_rfl) (by kernel_rfl) (by kernel_rfl) (door_met os _)) ?_
  intro W base args ds gs before hval0 hW _ _ hL _
  have hval : ∀ (j : Nat) t v, Tryd.f3.params[j]? = some t → args[j]? = some v → Value.okWide Tryd.prog W .any base t v := hval0
  have hW2 := hW
  obtain ⟨p, q, hA0, hV, hpq, hfz, hnd⟩ := hW
  have hA : DataW.TrodAll enc Tryd.prog W 0 (fun _ => true) true Tryd.f3.params.toList args.toList ds p := hA0
  rw [Tryd.params3] at hA hval
  obtain ⟨rfl, rfl⟩ := trodVars_none hV
  obtain ⟨v0, vs0, d0, ds0, p0, q0, ha0, hd0, hp0, h0, hA⟩ := trodAll_cons hA
  obtain ⟨hav, hdv, hpv⟩ := trodAll_nil hA
  have hargs : args = #[v0] := by
    apply Array.toList_inj.1
    rw [ha0, hav]
  have hds : ds = [d0] := by rw [hd0, hdv]
  clear hA hA0 hval0 ha0
  subst hargs
  subst hds
  obtain ⟨x0, e0, ⟨g0, g0b, _⟩⟩ := Trod.open1 op_leds h0
  obtain rfl := one_of_cells (by rw [Tryd.underlying22]) (hval 0 22 v0 rfl rfl) e0 rfl
  have hT := tab_of_laid hL
  refine Calls.mono (turns_ok x0.ao x0.c x0.xs _ W rfl hT g0 (fun l hl => (g0b l hl).1)) ?_
  rintro e W' ⟨v, rfl, hE, rfl⟩
  exact ⟨_, rfl, post_law laidOut (by kernel_rfl) rfl rfl Tryd.underlying4 hW2 hE rfl⟩
theorem journalTurns_holds : Rows.JournalTurnsSaid :=
  OpenClaim.holds_of_wide 3 Tryd.f3 rfl rfl rfl rfl rfl rfl rfl ⟨rfl, rfl, rfl, rfl, rfl⟩ rfl rfl rfl rfl rfl (by kernel_rfl) Tryd.func3 (by kernel_rfl)
    (of_decide_eq_true (by kernel_rfl)) (by unfold Func.isWrapper; first | (rw [if_pos (by decide +kernel)]; kernel_rfl) | (rw [if_neg (by decide +kernel)]; exact ⟨rfl, rfl⟩))
    (fun os started H enc _ => journalTurns_lifted os started H enc)
theorem journalTurns_card : Rows.JournalTurnsCardSaid :=
  Claim7.holds_tied_plain_at .later [] [.data] true (true, "b10c4205ca2c117f0495df49990555f56813d6858bdba1e2d0fd704ed80273e5") false
    journalTurns_holds (fun _ h => by cases h) (by kernel_rfl) (fun _ h => by cases h) journalTurns_row_tie rfl ⟨rfl, rfl⟩ (by kernel_rfl) rfl
    (fun f fn hf hfn => by
      obtain rfl : f = 3 := Option.some.inj ((show Tryd.prog.funcNamed "paternoster/paternosterlaw16.JournalTurns" = some 3 by kernel_rfl).symm.trans hf) |>.symm
      obtain rfl : fn = Tryd.f3 := (Option.some.inj (Tryd.func3.symm.trans hfn)).symm
      exact ⟨by kernel_rfl, fun j t ht => by
        rw [Tryd.params3] at ht
        have hm : t ∈ [22] := by simpa using Array.mem_of_getElem? ht
        have hall : ([22].all fun u => !Tryd.prog.wantsStandIn u) = true := by kernel_rfl
        exact (show Tryd.prog.wantsStandIn t = false by simpa using List.all_eq_true.1 hall t hm)⟩)
    (by kernel_rfl)
#print axioms journalTurns_card
end Go.Proofs.YtcmlklnelipacaaDoor

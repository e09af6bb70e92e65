/- What came in, opened; the table of package crc, out of the condition on it. -/
import Derived.Test.YtcmlklnelipacaaDoorLedIn
import Derived.Test.YtcmlklnelipacaaDoorRows
import Derived.OpenShut
import Derived.MakeChecks
set_option linter.unusedVariables false
set_option linter.unusedSimpArgs false
set_option maxRecDepth 100000
namespace Go.Proofs.YtcmlklnelipacaaDoor
open Go Go.RowKit Go.ChangeShapes Go.WideShapes Go.ChangeAt Go.WideMaps Go.WideElems Plain
theorem own : ownKnob Tryd.prog.godebug = none := by kernel_rfl
theorem laidOut : laidOutB Tryd.prog = true := by kernel_rfl
theorem cells_of_lits {P : Program} {H : Type} {en : TypeId × Value → H} {w : World} {sp : Nat → Bool} {held : Bool} {fuel : Nat} {t e : TypeId} {k : IntKind} {cs : List Value} {ps : List MemPlace} (ns : List Int) (ht : P.underlying t = some (.array ns.length e)) (he : P.underlying e = some (.int k)) (hc : P.cellsOf e = 1) (hct : P.cellsOf t = ns.length)
    (h : DataW.trod en P w 0 sp held fuel t cs = some (.agg (ns.map fun x => .lit (.int k x)), ps)) : cs = ns.map (Value.int k) := by
  obtain ⟨xs, m1, _, hx1, hlen, hn3, hel⟩ := DataW.trod_array ht h
  simp only [Prod.mk.injEq, DataW.agg.injEq] at hx1
  rw [hct] at hlen
  apply List.ext_getElem?
  intro i
  by_cases hi : i < ns.length
  · have h1 := hel i hi
    rw [List.getElem?_eq_getElem (by omega)] at h1
    obtain ⟨n, e1, e2, _⟩ := DataW.trod_int he h1
    rw [hc, Nat.mul_one] at e1
    have hg : cs[i]? = some (.int k n) := by
      have := congrArg (fun l => l[0]?) e1
      simpa using this
    have h2 : (ns.map fun x => (DataW.lit (.int k x) : DataW H))[i]? = (xs.map (·.1))[i]? := by rw [hx1.1]
    rw [List.getElem?_map, List.getElem?_map, List.getElem?_eq_getElem hi, List.getElem?_eq_getElem (by omega)] at h2
    simp only [Option.map_some, Option.some.injEq, e2, DataW.lit.injEq, Lit.int.injEq, true_and] at h2
    rw [hg, List.getElem?_map, List.getElem?_eq_getElem hi]
    simp [h2]
  · rw [List.getElem?_eq_none (by omega), List.getElem?_eq_none (by simp; omega)]
abbrev laidL : List (String × DataW Unit) := [("paternoster/crc.half", Rows.laid_paternoster_crc_half)]
theorem door_met (os : Os) (args : Array Value) : laidMetH Tryd.prog laidL ((World.doorLaid Tryd.prog 400 os).forCall (fun _ _ => 0) ⟨#[], args, []⟩).memory :=
  laidMetH_of_parts3 (fuel := 8) (laidMet_of_run' 8 (by kernel_rfl) (by kernel_rfl)) (by kernel_rfl) (by kernel_rfl)
theorem tab_of_laid {W : World} (h : laidMetH Tryd.prog laidL W) : Tab W := by
  rw [MakeChecks.laidMetH_plain _ _ _ (by kernel_rfl)] at h
  obtain ⟨ps, ⟨g0, t0, cs0, f0, p0, q0, hg0, ht0, hv0, hd0, _, _⟩, _, _⟩ := h
  obtain rfl := Option.some.inj ((show Tryd.prog.globalNamed "paternoster/crc.half" = some 0 by kernel_rfl).symm.trans hg0)
  obtain rfl := Option.some.inj ((show (Tryd.prog.globals[0]?).map (·.type) = some 99 by kernel_rfl).symm.trans ht0)
  have hcs := cells_of_lits HALF Tryd.underlying99 Tryd.underlying90 (by kernel_rfl) (by kernel_rfl) hd0
  have hat : At W ⟨0, 0, none⟩ (HALF.map (Value.int .u32)) := by
    intro j v hj
    rw [add_lit, Nat.zero_add]
    have h1 := World.var?_cell hg0 hv0 j
    have h2 : cs0[j]? = some v := by rw [← hcs] at hj; simpa using hj
    rw [h2] at h1
    exact h1
  refine ⟨?_, hat⟩
  have := hat 0 (.int .u32 0) rfl
  obtain ⟨o, ho, _⟩ := cells_of_cell this
  exact (Array.getElem?_eq_some_iff.1 ho).1
/-! what came in -/
theorem op_int : OpensTo Tryd.prog 3 (fun n : Int => [.int .i64 n]) (fun _ n => IntKind.i64.min ≤ n ∧ n ≤ IntKind.i64.max) := opens_int Tryd.underlying3
theorem op_bytes : OpensTo Tryd.prog 24 (encSl (α := Int)) (fun w s => Rd (fun _ => True) w 1 (.slice s.ao s.xs.length s.c) (s.xs.map encB) ∧ (∀ x ∈ s.xs, IntKind.u8.min ≤ x ∧ x ≤ IntKind.u8.max) ∧ s.xs.length ≤ maxLen ∧ s.c ≤ maxLen) :=
  opens_slice Tryd.underlying24 (opens_int Tryd.underlying5) (fun _ => rfl) (by kernel_rfl) (by decide)
theorem op_permit : OpensTo Tryd.prog 57 encP (fun _ p => (IntKind.i64.min ≤ p.car ∧ p.car ≤ IntKind.i64.max) ∧ (IntKind.i64.min ≤ p.peak ∧ p.peak ≤ IntKind.i64.max)) :=
  OpensTo.map (opens_struct Tryd.underlying57 rfl (opensRow_cons op_int (k := 1) (by kernel_rfl) (fun _ => rfl) (opensRow_cons op_int (k := 1) (by kernel_rfl) (fun _ => rfl) opensRow_nil)) (fun _ => by show _ = _; exact (show Tryd.prog.cellsOf 57 = 2 by kernel_rfl).symm)) (fun p => (⟨p.1, p.2.1⟩ : Permit)) (fun _ => rfl) (fun _ _ h => ⟨h.1, h.2.1⟩)
theorem op_permits : OpensTo Tryd.prog 30 (encSl (α := Permit)) (fun w s => Rd (fun _ => True) w 2 (.slice s.ao s.xs.length s.c) (s.xs.map encP) ∧ (∀ p ∈ s.xs, (IntKind.i64.min ≤ p.car ∧ p.car ≤ IntKind.i64.max) ∧ (IntKind.i64.min ≤ p.peak ∧ p.peak ≤ IntKind.i64.max)) ∧ s.xs.length ≤ maxLen ∧ s.c ≤ maxLen) :=
  opens_slice Tryd.underlying30 op_permit (fun _ => rfl) (by kernel_rfl) (by decide)
def GoodLed (w : World) (l : LedIn) : Prop := Rd (fun _ => True) w 2 (.slice l.s.ao l.s.xs.length l.s.c) (l.s.xs.map encP) ∧ l.s.xs.length ≤ maxLen
theorem op_led : OpensTo Tryd.prog 32 encLedIn GoodLed :=
  OpensTo.map (opens_struct Tryd.underlying32 rfl (opensRow_cons op_int (k := 1) (by kernel_rfl) (fun _ => rfl) (opensRow_cons op_int (k := 1) (by kernel_rfl) (fun _ => rfl) (opensRow_cons op_int (k := 1) (by kernel_rfl) (fun _ => rfl) (opensRow_cons op_permits (k := 1) (by kernel_rfl) (fun _ => rfl) opensRow_nil)))) (fun _ => by show _ = _; exact (show Tryd.prog.cellsOf 32 = 4 by kernel_rfl).symm)) (fun p => (⟨p.1, p.2.1, p.2.2.1, p.2.2.2.1⟩ : LedIn)) (fun _ => rfl) (fun _ _ h => ⟨h.2.2.2.1.1, h.2.2.2.1.2.2.1⟩)
theorem op_leds : OpensTo Tryd.prog 22 (encSl (α := LedIn)) (fun w s => Rd (fun _ => True) w 4 (.slice s.ao s.xs.length s.c) (s.xs.map encLedIn) ∧ (∀ l ∈ s.xs, GoodLed w l) ∧ s.xs.length ≤ maxLen ∧ s.c ≤ maxLen) :=
  opens_slice Tryd.underlying22 op_led (fun _ => rfl) (by kernel_rfl) (by decide)
theorem op_moving : OpensTo Tryd.prog 56 encP (fun _ p => (IntKind.i64.min ≤ p.car ∧ p.car ≤ IntKind.i64.max) ∧ (IntKind.i64.min ≤ p.peak ∧ p.peak ≤ IntKind.i64.max)) :=
  OpensTo.map (opens_struct Tryd.underlying56 rfl (opensRow_cons op_int (k := 1) (by kernel_rfl) (fun _ => rfl) (opensRow_cons op_int (k := 1) (by kernel_rfl) (fun _ => rfl) opensRow_nil)) (fun _ => by show _ = _; exact (show Tryd.prog.cellsOf 56 = 2 by kernel_rfl).symm)) (fun p => (⟨p.1, p.2.1⟩ : Permit)) (fun _ => rfl) (fun _ _ h => ⟨h.1, h.2.1⟩)
theorem op_movs : OpensTo Tryd.prog 49 (encSl (α := Permit)) (fun w s => Rd (fun _ => True) w 2 (.slice s.ao s.xs.length s.c) (s.xs.map encP) ∧ (∀ p ∈ s.xs, (IntKind.i64.min ≤ p.car ∧ p.car ≤ IntKind.i64.max) ∧ (IntKind.i64.min ≤ p.peak ∧ p.peak ≤ IntKind.i64.max)) ∧ s.xs.length ≤ maxLen ∧ s.c ≤ maxLen) :=
  opens_slice Tryd.underlying49 op_moving (fun _ => rfl) (by kernel_rfl) (by decide)
theorem isB_of {xs : List Int} (h : ∀ x ∈ xs, IntKind.u8.min ≤ x ∧ x ≤ IntKind.u8.max) : isB xs := fun x hx => by
  have h1 := h x hx
  have h2 : (0 : Int) ≤ x ∧ x ≤ 255 := h1
  omega
end Go.Proofs.YtcmlklnelipacaaDoor

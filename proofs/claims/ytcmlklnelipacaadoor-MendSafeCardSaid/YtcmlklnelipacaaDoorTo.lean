import Derived.Test.YtcmlklnelipacaaDoorTear
import Derived.Test.YtcmlklnelipacaaDoorSame
set_option linter.unusedVariables false
set_option linter.unusedSimpArgs false
set_option maxRecDepth 100000
namespace Go.Proofs.YtcmlklnelipacaaDoor
open Go.RowKit Plain

theorem isB_jput (l : Ledger) (sq : Int) : isB (jput crcOf l sq) := isB_append (isB_jrows l sq) (leB_isB 4 _)
theorem isB_nil : isB [] := fun x h => by cases h
theorem isB_drop {l : List Int} (h : isB l) (n : Nat) : isB (l.drop n) := fun x hx => h x (List.mem_of_mem_drop hx)
theorem Ret.weaken {S : Nat → Prop} {w : World} {Φ Ψ : Value → World → Prop} {P : Program} {f : FuncId} {args : Array Value} (h : Calls P f args w (Ret S w Φ)) (k : ∀ v w', Φ v w' → Ψ v w') : Calls P f args w (Ret S w Ψ) :=
  Calls.mono h (fun e w' ⟨v, he, h1, h2⟩ => ⟨v, he, h1, k v w' h2⟩)
theorem jload_to {F0 F1 : Nat → Prop} (a0 a1 aw : Option Addr) (p0 p1 pw : Nat) (s0 s1 wa : List Int) (la : Int) (wr : Bool) (n0 n1 nw : Nat) (l : Ledger) (q : Int) (t : Bool) (w : World) (hj : jload crcOf ⟨s0, s1, la, wa, wr⟩ = (l, q)) (ht : decide (0 < q) = t) (hl_nw : nw = wa.length) (hl_n1 : n1 = s1.length) (hl_n0 : n0 = s0.length) (hn0 : n0 ≤ 1000000) (hn1 : n1 ≤ 1000000) (hB0 : isB s0) (hB1 : isB s1) (hT : Tab w) (hR0 : Rd F0 w 1 (.slice a0 n0 p0) (s0.map encB)) (hR1 : Rd F1 w 1 (.slice a1 n1 p1) (s1.map encB)) :
    Calls Tryd.prog 12 #[.agg #[.slice a0 n0 p0, .slice a1 n1 p1, .int .i64 (la), .slice aw nw pw, .bool (wr)]] w (Ret Non w fun v w' => ∃ (ao2 : Option Addr) (c2 : Nat), v = .tuple #[.agg #[.int .i64 l.budget, .int .i64 l.margin, .int .i64 l.credit, .slice ao2 l.l.length c2], .int .u64 q, .bool t] ∧ Rd (fun b => w.heap.size ≤ b) w' 2 (.slice ao2 l.l.length c2) (l.l.map encP)) := by
  refine Ret.weaken (jload_ok (Fw := Non) a0 a1 aw p0 p1 pw s0 s1 wa la wr n0 n1 nw w hl_nw hl_n1 hl_n0 hn0 hn1 hB0 hB1 hT hR0 hR1) ?_
  rintro v w' ⟨n, ao2, c2, rfl, hn, hR⟩
  rw [hj] at hn hR
  subst hn
  exact ⟨ao2, c2, by rw [hj, ht], hR⟩
theorem write1_to {F0 F1 F : Nat → Prop} (a0 a1 aw : Option Addr) (p0 p1 pw : Nat) (s0 s1 wa : List Int) (la : Int) (wr : Bool) (b m c : Int) (ao : Option Addr) (cp : Nat) (ps : List Permit) (n0 n1 nw n4 : Nat) (q : Int) (X : List Int) (w : World) (hq : (jload crcOf ⟨s0, s1, la, wa, wr⟩).2 + 1 = q) (hX : jput crcOf ⟨b, m, c, ps⟩ q = X) (hq1 : 1 ≤ q ∧ q ≤ 1000001) (hpar : q % 2 = 1) (hl_n4 : n4 = ps.length) (hl_nw : nw = wa.length) (hl_n1 : n1 = s1.length) (hl_n0 : n0 = s0.length) (hn0 : n0 ≤ 1000000) (hn1 : n1 ≤ 1000000) (hB0 : isB s0) (hB1 : isB s1) (hn : n4 ≤ 1000) (hp : ∀ p ∈ ps, 0 ≤ p.car ∧ p.car < 4294967296 ∧ 0 ≤ p.peak ∧ p.peak < 4294967296) (hb : 0 ≤ b ∧ b < 4294967296) (hm : 0 ≤ m ∧ m < 4294967296) (hT : Tab w) (hR0 : Rd F0 w 1 (.slice a0 n0 p0) (s0.map encB)) (hR1 : Rd F1 w 1 (.slice a1 n1 p1) (s1.map encB)) (hR : Rd F w 2 (.slice ao n4 cp) (ps.map encP)) :
    Calls Tryd.prog 11 #[.agg #[.slice a0 n0 p0, .slice a1 n1 p1, .int .i64 (la), .slice aw nw pw, .bool (wr)], .agg #[.int .i64 (b), .int .i64 (m), .int .i64 (c), .slice ao n4 cp]] w (Ret Non w fun v w' => ∃ (ao3 : Option Addr) (c3 : Nat), v = .agg #[.slice a0 n0 p0, .slice ao3 X.length c3, .int .i64 (1), .slice a1 n1 p1, .bool (true)] ∧ Rd (fun b => w.heap.size ≤ b) w' 1 (.slice ao3 X.length c3) (X.map encB)) := by
  subst hq; subst hX
  refine Ret.weaken (write1_ok (Fw := Non) a0 a1 aw p0 p1 pw s0 s1 wa la wr b m c ao cp ps n0 n1 nw n4 w hl_n4 hl_nw hl_n1 hl_n0 hn0 hn1 hB0 hB1 (by omega) hpar hn hp hb hm hT hR0 hR1 hR) ?_
  rintro v w' ⟨ao3, c3, rfl, hP⟩
  subst hl_n0; subst hl_n1
  exact ⟨ao3, c3, rfl, hP⟩
theorem write0_to {F0 F1 F : Nat → Prop} (a0 a1 aw : Option Addr) (p0 p1 pw : Nat) (s0 s1 wa : List Int) (la : Int) (wr : Bool) (b m c : Int) (ao : Option Addr) (cp : Nat) (ps : List Permit) (n0 n1 nw n4 : Nat) (q : Int) (X : List Int) (w : World) (hq : (jload crcOf ⟨s0, s1, la, wa, wr⟩).2 + 1 = q) (hX : jput crcOf ⟨b, m, c, ps⟩ q = X) (hq1 : 1 ≤ q ∧ q ≤ 1000001) (hpar : q % 2 = 0) (hl_n4 : n4 = ps.length) (hl_nw : nw = wa.length) (hl_n1 : n1 = s1.length) (hl_n0 : n0 = s0.length) (hn0 : n0 ≤ 1000000) (hn1 : n1 ≤ 1000000) (hB0 : isB s0) (hB1 : isB s1) (hn : n4 ≤ 1000) (hp : ∀ p ∈ ps, 0 ≤ p.car ∧ p.car < 4294967296 ∧ 0 ≤ p.peak ∧ p.peak < 4294967296) (hb : 0 ≤ b ∧ b < 4294967296) (hm : 0 ≤ m ∧ m < 4294967296) (hT : Tab w) (hR0 : Rd F0 w 1 (.slice a0 n0 p0) (s0.map encB)) (hR1 : Rd F1 w 1 (.slice a1 n1 p1) (s1.map encB)) (hR : Rd F w 2 (.slice ao n4 cp) (ps.map encP)) :
    Calls Tryd.prog 11 #[.agg #[.slice a0 n0 p0, .slice a1 n1 p1, .int .i64 (la), .slice aw nw pw, .bool (wr)], .agg #[.int .i64 (b), .int .i64 (m), .int .i64 (c), .slice ao n4 cp]] w (Ret Non w fun v w' => ∃ (ao3 : Option Addr) (c3 : Nat), v = .agg #[.slice ao3 X.length c3, .slice a1 n1 p1, .int .i64 (0), .slice a0 n0 p0, .bool (true)] ∧ Rd (fun b => w.heap.size ≤ b) w' 1 (.slice ao3 X.length c3) (X.map encB)) := by
  subst hq; subst hX
  refine Ret.weaken (write0_ok (Fw := Non) a0 a1 aw p0 p1 pw s0 s1 wa la wr b m c ao cp ps n0 n1 nw n4 w hl_n4 hl_nw hl_n1 hl_n0 hn0 hn1 hB0 hB1 (by omega) hpar hn hp hb hm hT hR0 hR1 hR) ?_
  rintro v w' ⟨ao3, c3, rfl, hP⟩
  subst hl_n0; subst hl_n1
  exact ⟨ao3, c3, rfl, hP⟩
theorem tear1_to {F0 F1 Fw : Nat → Prop} (a0 a1 aw : Option Addr) (p0 p1 pw : Nat) (s0 s1 wa : List Int) (wr : Bool) (n : Int) (n0 n1 nw : Nat) (X : List Int) (w : World) (hX : (if wr = false ∨ (s1.length : Int) ≤ max n 0 then s1 else s1.take (max n 0).toNat ++ wa.drop (min (max n 0) (wa.length : Int)).toNat) = X) (hl_nw : nw = wa.length) (hl_n1 : n1 = s1.length) (hl_n0 : n0 = s0.length) (hn0 : n0 ≤ 1000000) (hn1 : n1 ≤ 1000000) (hnw : nw ≤ 1000000) (hR0 : Rd F0 w 1 (.slice a0 n0 p0) (s0.map encB)) (hR1 : Rd F1 w 1 (.slice a1 n1 p1) (s1.map encB)) (hRw : Rd Fw w 1 (.slice aw nw pw) (wa.map encB)) :
    Calls Tryd.prog 16 #[.agg #[.slice a0 n0 p0, .slice a1 n1 p1, .int .i64 (1), .slice aw nw pw, .bool (wr)], .int .i64 (n)] w (Ret Non w fun v w' => ∃ (ao3 : Option Addr) (c3 : Nat), v = .agg #[.slice a0 n0 p0, .slice ao3 X.length c3, .int .i64 (1), .slice aw nw pw, .bool (wr)] ∧ Rd (fun b => F1 b ∨ w.heap.size ≤ b) w' 1 (.slice ao3 X.length c3) (X.map encB)) := by
  subst hX; subst hl_n0; subst hl_n1; subst hl_nw
  exact tear1_ok a0 a1 aw p0 p1 pw s0 s1 wa wr n w hn0 hn1 hnw hR0 hR1 hRw
theorem tear0_to {F0 F1 Fw : Nat → Prop} (a0 a1 aw : Option Addr) (p0 p1 pw : Nat) (s0 s1 wa : List Int) (wr : Bool) (n : Int) (n0 n1 nw : Nat) (X : List Int) (w : World) (hX : (if wr = false ∨ (s0.length : Int) ≤ max n 0 then s0 else s0.take (max n 0).toNat ++ wa.drop (min (max n 0) (wa.length : Int)).toNat) = X) (hl_nw : nw = wa.length) (hl_n1 : n1 = s1.length) (hl_n0 : n0 = s0.length) (hn0 : n0 ≤ 1000000) (hn1 : n1 ≤ 1000000) (hnw : nw ≤ 1000000) (hR0 : Rd F0 w 1 (.slice a0 n0 p0) (s0.map encB)) (hR1 : Rd F1 w 1 (.slice a1 n1 p1) (s1.map encB)) (hRw : Rd Fw w 1 (.slice aw nw pw) (wa.map encB)) :
    Calls Tryd.prog 16 #[.agg #[.slice a0 n0 p0, .slice a1 n1 p1, .int .i64 (0), .slice aw nw pw, .bool (wr)], .int .i64 (n)] w (Ret Non w fun v w' => ∃ (ao3 : Option Addr) (c3 : Nat), v = .agg #[.slice ao3 X.length c3, .slice a1 n1 p1, .int .i64 (0), .slice aw nw pw, .bool (wr)] ∧ Rd (fun b => F0 b ∨ w.heap.size ≤ b) w' 1 (.slice ao3 X.length c3) (X.map encB)) := by
  subst hX; subst hl_n0; subst hl_n1; subst hl_nw
  exact tear0_ok a0 a1 aw p0 p1 pw s0 s1 wa wr n w hn0 hn1 hnw hR0 hR1 hRw
theorem part_total : ∀ (k : Nat) (xs : List Int) (rs : List (List Int)), Plain.part k xs = some rs → isB xs → xs.length = (rs.map fun r => r.length + 2).sum := by
  intro k
  induction k with
  | zero => intro xs rs h; cases h
  | succ k ih =>
    intro xs rs h hB
    match xs, h with
    | [], h => simp [Plain.part] at h; subst h; rfl
    | [_], h => simp [Plain.part] at h
    | x :: y :: t, h =>
      simp only [Plain.part] at h
      split at h
      · cases h
      · rename_i hlt
        cases hp : Plain.part k (t.drop (x + y * 256).toNat) with
        | none => rw [hp] at h; cases h
        | some rs' =>
          rw [hp] at h
          simp at h
          subst h
          have hx := hB x (by simp)
          have hy := hB y (by simp)
          have := ih _ _ hp (fun z hz => hB z (by simp [List.mem_of_mem_drop hz]))
          simp only [List.length_drop] at this
          simp only [List.map_cons, List.sum_cons, ← this, List.length_cons, List.length_take]
          omega
/-- Few bytes are no journal's. -/
theorem jget_short {xs : List Int} (hB : isB xs) (h : xs.length ≤ 15) : (jget crcOf xs).2.2 ≠ 0 := by
  cases h1 : opn crcOf xs with
  | none => rw [jget_none1 h1]; decide
  | some ds =>
    have hBd : isB ds := opn_some h1 ▸ isB_take hB _
    have hdl : ds.length ≤ 11 := by rw [opn_some h1]; simp; omega
    cases h2 : Plain.part (ds.length + 1) ds with
    | none => rw [jget_none2 h1 h2]; decide
    | some rs =>
      have ht := part_total _ _ _ h2 hBd
      unfold jget
      rw [h1]; simp only []; rw [h2]
      match rs, ht with
      | [], _ => exact (show (11 : Int) ≠ 0 by decide)
      | [_], _ => exact (show (11 : Int) ≠ 0 by decide)
      | [_, _], _ => exact (show (11 : Int) ≠ 0 by decide)
      | _ :: _ :: _ :: _ :: _, _ => exact (show (11 : Int) ≠ 0 by decide)
      | [r0, r1, r2], ht =>
        simp only []
        rw [if_neg (by simp at ht; omega)]
        exact (show (11 : Int) ≠ 0 by decide)
theorem jload_short {s0 s1 wa : List Int} {la : Int} {wr : Bool} (h0 : isB s0) (h1 : isB s1) (l0 : s0.length ≤ 15) (l1 : s1.length ≤ 15) : jload crcOf ⟨s0, s1, la, wa, wr⟩ = (.zero, 0) := by
  have n0 := jget_short h0 l0
  have n1 := jget_short h1 l1
  have e0 : jstep crcOf 0 s0 (.zero, 0) = (.zero, 0) := jstep_f (fun h => n0 h.1)
  have e1 : jstep crcOf 1 s1 (.zero, 0) = (.zero, 0) := jstep_f (fun h => n1 h.1)
  unfold jload; rw [e0, e1]
/-- The first write is told. -/
theorem jload_first {s0 wa : List Int} {la : Int} {wr : Bool} {l : Ledger} (h0 : isB s0) (l0 : s0.length ≤ 15) (hc : check l = true) (hl : l.l.length ≤ 8000) : jload crcOf ⟨s0, jput crcOf l 1, la, wa, wr⟩ = ({ l with credit := 0 }, 1) := by
  have n0 := jget_short h0 l0
  have hj := jget_jput crcOf l 1 hc hl (by decide) (by decide)
  have e0 : jstep crcOf 0 s0 (.zero, 0) = (.zero, 0) := jstep_f (fun h => n0 h.1)
  have e1 : jstep crcOf 1 (jput crcOf l 1) (.zero, 0) = ((jget crcOf (jput crcOf l 1)).1, (jget crcOf (jput crcOf l 1)).2.1) := jstep_t (by rw [hj]) (by rw [hj]; rfl) (by rw [hj]; exact (show (0 : Int) < 1 by decide))
  unfold jload; rw [e0, e1, hj]
end Go.Proofs.YtcmlklnelipacaaDoor

import Derived.Test.YtcmlklnelipacaaDoorTo
set_option linter.unusedVariables false
set_option linter.unusedSimpArgs false
set_option maxRecDepth 100000
namespace Go.Proofs.YtcmlklnelipacaaDoor
open Go.RowKit Plain

/-! ### what the journal says is checked, and short -/
theorem check_zero : check .zero = true := by decide
theorem jget_check (xs : List Int) : check (jget crcOf xs).1 = true := by
  unfold jget
  split
  · exact check_zero
  · rename_i c _
    split
    · exact check_zero
    · rename_i r0 r1 r2 _
      split
      · dsimp only
        split
        · assumption
        · exact check_zero
      · exact check_zero
    · exact check_zero
theorem chunks_le (n : Nat) (hn : 0 < n) : ∀ (k : Nat) (l : List Int), (chunks n k l).length ≤ l.length := by
  intro k
  induction k with
  | zero => intro l; simp [chunks]
  | succ k ih =>
    intro l
    cases l with
    | nil => simp [chunks]
    | cons x r =>
      simp only [chunks, List.length_cons]
      have := ih ((x :: r).drop n)
      simp only [List.length_drop, List.length_cons] at this
      omega
theorem pairs_le : ∀ l : List Int, (pairs l).length ≤ l.length
  | [] => by simp [pairs]
  | [_] => by simp [pairs]
  | _ :: _ :: r => by have := pairs_le r; simp [pairs]; omega
theorem jget_plen {xs : List Int} (hB : isB xs) : (jget crcOf xs).1.l.length ≤ xs.length := by
  cases h1 : opn crcOf xs with
  | none => rw [jget_none1 h1]; exact Nat.zero_le _
  | some ds =>
    have hBd : isB ds := opn_some h1 ▸ isB_take hB _
    have hdl : ds.length ≤ xs.length := by rw [opn_some h1]; simp
    cases h2 : Plain.part (ds.length + 1) ds with
    | none => rw [jget_none2 h1 h2]; exact Nat.zero_le _
    | some rs =>
      have ht := part_total _ _ _ h2 hBd
      unfold jget
      rw [h1]; simp only []; rw [h2]
      match rs, ht with
      | [], _ => exact Nat.zero_le _
      | [_], _ => exact Nat.zero_le _
      | [_, _], _ => exact Nat.zero_le _
      | _ :: _ :: _ :: _ :: _, _ => exact Nat.zero_le _
      | [r0, r1, r2], ht =>
        simp only []
        split
        · split
          · show (pairs (nums 4 r2)).length ≤ xs.length
            have a1 := pairs_le (nums 4 r2)
            have a2 : (nums 4 r2).length ≤ r2.length := by unfold nums; rw [List.length_map]; exact chunks_le 4 (by decide) _ _
            simp at ht
            omega
          · exact Nat.zero_le _
        · exact Nat.zero_le _
theorem jstep_or (i : Int) (b : List Int) (acc : Ledger × Int) : jstep crcOf i b acc = acc ∨ jstep crcOf i b acc = ((jget crcOf b).1, (jget crcOf b).2.1) := by
  unfold jstep
  dsimp only
  split
  · exact .inr rfl
  · exact .inl rfl
theorem jload_is {s0 s1 wa : List Int} {la : Int} {wr : Bool} (h0 : isB s0) (h1 : isB s1) : check (jload crcOf ⟨s0, s1, la, wa, wr⟩).1 = true ∧ (jload crcOf ⟨s0, s1, la, wa, wr⟩).1.l.length ≤ s0.length + s1.length ∧ 0 ≤ (jload crcOf ⟨s0, s1, la, wa, wr⟩).2 := by
  have c0 := jget_check s0
  have c1 := jget_check s1
  have l0 := jget_plen h0
  have l1 := jget_plen h1
  have q0 := (jget_seq h0).1
  have q1 := (jget_seq h1).1
  unfold jload
  dsimp only
  rcases jstep_or 0 s0 (.zero, 0) with e | e <;> rw [e]
  · rcases jstep_or 1 s1 (.zero, 0) with e | e <;> rw [e]
    · exact ⟨check_zero, Nat.zero_le _, Int.le_refl _⟩
    · exact ⟨c1, by dsimp only; omega, q1⟩
  · rcases jstep_or 1 s1 ((jget crcOf s0).1, (jget crcOf s0).2.1) with e | e <;> rw [e]
    · exact ⟨c0, by dsimp only; omega, q0⟩
    · exact ⟨c1, by dsimp only; omega, q1⟩
/-! ### the ledger made up again -/
def cntC (ms : List Permit) (q : Int) : Int := ((ms.countP fun m => decide (m.car = q) : Nat) : Int)
def nOf (wl : List Permit) (m : Permit) : Int := min (max (max m.peak (oneOf (fun p : Permit => decide (p.car = m.car)) wl).peak) 0) 1048576
def agStep (wl : List Permit) (bud : Int) (pre : List Permit) (acc : List Permit × List Int) (m : Permit) : List Permit × List Int :=
  if 1 < cntC (pre ++ [m]) m.car ∨ m.car < 0 ∨ 64 ≤ m.car then acc
  else if bud < psum acc.1 + nOf wl m then (acc.1, acc.2 ++ [m.car]) else (acc.1 ++ [⟨m.car, nOf wl m⟩], acc.2)
def agN (wl : List Permit) (bud : Int) (ms : List Permit) : Nat → List Permit × List Int
  | 0 => ([], [])
  | i + 1 => match ms[i]? with
    | some m => agStep wl bud (ms.take i) (agN wl bud ms i) m
    | none => agN wl bud ms i
theorem agN_succ {wl : List Permit} {bud : Int} {ms : List Permit} {i : Nat} {m : Permit} (h : ms[i]? = some m) : agN wl bud ms (i + 1) = agStep wl bud (ms.take i) (agN wl bud ms i) m := by
  show (match ms[i]? with | some m => agStep wl bud (ms.take i) (agN wl bud ms i) m | none => agN wl bud ms i) = _
  rw [h]
theorem cnt_nil (q : Int) : cntC [] q = 0 := rfl
theorem cnt_snoc (ms : List Permit) (m : Permit) (q : Int) : cntC (ms ++ [m]) q = cntC ms q + (if m.car = q then 1 else 0) := by
  unfold cntC
  rw [List.countP_append]
  by_cases h : m.car = q <;> simp [h]
theorem cnt_step {ms : List Permit} {i : Nat} {x : Permit} (h : ms[i]? = some x) (q : Int) : (if q = x.car then cntC (ms.take i) x.car + 1 else cntC (ms.take i) q) = cntC (ms.take (i + 1)) q := by
  rw [take_snoc h, cnt_snoc]
  by_cases e : q = x.car
  · subst e; simp
  · have : ¬ x.car = q := fun h => e h.symm
    simp [e, this]
theorem cnt_le (ms : List Permit) (q : Int) : 0 ≤ cntC ms q ∧ cntC ms q ≤ ms.length := by
  unfold cntC
  have := List.countP_le_length (p := fun m : Permit => decide (m.car = q)) (l := ms)
  omega
theorem cnt_zero {ms : List Permit} {q : Int} : cntC ms q = 0 ↔ ∀ m ∈ ms, m.car ≠ q := by
  unfold cntC
  constructor
  · intro h m hm e
    have : (ms.countP fun m => decide (m.car = q)) = 0 := by omega
    rw [List.countP_eq_zero] at this
    exact this m hm (by simpa using e)
  · intro h
    have : (ms.countP fun m => decide (m.car = q)) = 0 := by
      rw [List.countP_eq_zero]
      intro m hm; simpa using h m hm
    omega
/-- It is the first of its car. -/
def First (ms : List Permit) (i : Nat) (m : Permit) : Prop := ms[i]? = some m ∧ 0 ≤ m.car ∧ m.car < 64 ∧ ∀ k m', k < i → ms[k]? = some m' → m'.car ≠ m.car
theorem first_cnt {ms : List Permit} {i : Nat} {m : Permit} (h : ms[i]? = some m) : (∀ k m', k < i → ms[k]? = some m' → m'.car ≠ m.car) ↔ ¬ 1 < cntC (ms.take i ++ [m]) m.car := by
  have h0 := cnt_le (ms.take i) m.car
  rw [cnt_snoc, if_pos rfl]
  constructor
  · intro hf
    have : cntC (ms.take i) m.car = 0 := cnt_zero.2 (fun x hx => by
      obtain ⟨k, hk⟩ := List.mem_iff_getElem?.1 hx
      rw [List.getElem?_take] at hk
      split at hk
      · exact hf k x (by assumption) hk
      · cases hk)
    omega
  · intro hc k m' hk hm' e
    have : cntC (ms.take i) m.car = 0 := by omega
    exact cnt_zero.1 this m' (List.mem_iff_getElem?.2 ⟨k, by rw [List.getElem?_take, if_pos hk, hm']⟩) e
theorem first_eq {ms : List Permit} {i j : Nat} {m m' : Permit} (h : First ms i m) (h' : First ms j m') (e : m.car = m'.car) : i = j := by
  by_cases h1 : i < j
  · exact absurd e (h'.2.2.2 i m h1 h.1)
  · by_cases h2 : j < i
    · exact absurd e.symm (h.2.2.2 j m' h2 h'.1)
    · omega
theorem nOf_range (wl : List Permit) (m : Permit) : 0 ≤ nOf wl m ∧ nOf wl m ≤ 1048576 ∧ min m.peak 1048576 ≤ nOf wl m := by unfold nOf; omega
theorem okPermits_snoc : ∀ (l pre : List Permit) (p : Permit), okPermits pre (l ++ [p]) = (okPermits pre l && (!((pre ++ l).any (fun q => q.car == p.car)) && known p.car && power p.peak))
  | [], pre, p => by simp [okPermits]
  | q :: l, pre, p => by
    simp only [List.cons_append, okPermits, okPermits_snoc l (pre ++ [q]) p]
    simp [Bool.and_assoc, List.append_assoc]
theorem psum_snoc (l : List Permit) (p : Permit) : psum (l ++ [p]) = sadd (psum l) p.peak := by simp [psum, ssum]
structure AgInv (wl : List Permit) (bud : Int) (ms : List Permit) (i : Nat) (a : List Permit × List Int) : Prop where
  i1 : ∀ p ∈ a.1, ∃ j m, j < i ∧ First ms j m ∧ p = ⟨m.car, nOf wl m⟩
  i2 : ∀ s ∈ a.2, ∃ j m, j < i ∧ First ms j m ∧ s = m.car
  i3 : okPermits [] a.1 = true
  i4 : 0 ≤ psum a.1 ∧ psum a.1 ≤ bud
  i5 : a.1.length + a.2.length ≤ i
  i6 : ∀ j m, j < i → First ms j m → ((⟨m.car, nOf wl m⟩ ∈ a.1 ∧ m.car ∉ a.2) ∨ (m.car ∈ a.2 ∧ ∀ p ∈ a.1, p.car ≠ m.car))
theorem ag_inv (wl : List Permit) (bud : Int) (ms : List Permit) (hb : 0 ≤ bud ∧ bud ≤ 1048576) : ∀ i, i ≤ ms.length → AgInv wl bud ms i (agN wl bud ms i)
  | 0, _ => ⟨fun p h => by simp [agN] at h, fun s h => by simp [agN] at h, rfl, ⟨by show (0 : Int) ≤ 0; omega, by show (0 : Int) ≤ bud; omega⟩, by simp [agN], fun j m h => by omega⟩
  | i + 1, hi => by
    have ih := ag_inv wl bud ms hb i (by omega)
    obtain ⟨m, hm⟩ : ∃ m, ms[i]? = some m := ⟨ms[i], List.getElem?_eq_getElem (by omega)⟩
    rw [agN_succ hm]
    generalize agN wl bud ms i = a at ih
    obtain ⟨n0, n1, n2⟩ := nOf_range wl m
    unfold agStep
    split
    · rename_i hc
      refine ⟨fun p hp => ?_, fun s hs => ?_, ih.i3, ih.i4, by have := ih.i5; omega, fun j m' hj hf => ?_⟩
      · obtain ⟨j, m', hj, h⟩ := ih.i1 p hp; exact ⟨j, m', by omega, h⟩
      · obtain ⟨j, m', hj, h⟩ := ih.i2 s hs; exact ⟨j, m', by omega, h⟩
      · by_cases e : j = i
        · subst e
          have : m' = m := Option.some.inj (hf.1.symm.trans hm)
          subst this
          exfalso
          rcases hc with hc | hc | hc
          · exact (first_cnt hm).1 hf.2.2.2 hc
          · have := hf.2.1; omega
          · have := hf.2.2.1; omega
        · exact ih.i6 j m' (by omega) hf
    · rename_i hc
      have hF : First ms i m := ⟨hm, by omega, by omega, (first_cnt hm).2 (by omega)⟩
      have old : ∀ j m', j < i → First ms j m' → m'.car ≠ m.car := fun j m' hj hf e => by have := first_eq hf hF e; omega
      have hno : ∀ p ∈ a.1, p.car ≠ m.car := fun p hp => by
        obtain ⟨j, m', hj, hf, rfl⟩ := ih.i1 p hp
        exact old j m' hj hf
      have hns : m.car ∉ a.2 := fun hs => by
        obtain ⟨j, m', hj, hf, e⟩ := ih.i2 _ hs
        exact old j m' hj hf e.symm
      split
      · refine ⟨fun p hp => ?_, fun s hs => ?_, ih.i3, ih.i4, by have := ih.i5; simp; omega, fun j m' hj hf => ?_⟩
        · obtain ⟨j, m', hj, h⟩ := ih.i1 p hp; exact ⟨j, m', by omega, h⟩
        · rcases List.mem_append.1 hs with hs | hs
          · obtain ⟨j, m', hj, h⟩ := ih.i2 s hs; exact ⟨j, m', by omega, h⟩
          · simp at hs; exact ⟨i, m, by omega, hF, hs⟩
        · by_cases e : j = i
          · subst e
            have : m' = m := Option.some.inj (hf.1.symm.trans hm)
            subst this
            exact .inr ⟨by simp, hno⟩
          · have hne := old j m' (by omega) hf
            rcases ih.i6 j m' (by omega) hf with ⟨h1, h2⟩ | ⟨h1, h2⟩
            · exact .inl ⟨h1, by simp [h2, hne]⟩
            · exact .inr ⟨by simp [h1], h2⟩
      · rename_i hle
        have h4 := ih.i4
        have hs : psum (a.1 ++ [⟨m.car, nOf wl m⟩]) = psum a.1 + nOf wl m := by
          rw [psum_snoc]
          unfold sadd bnd
          dsimp only
          omega
        refine ⟨fun p hp => ?_, fun s hs => ?_, ?_, by rw [hs]; omega, by have := ih.i5; simp; omega, fun j m' hj hf => ?_⟩
        · rcases List.mem_append.1 hp with hp | hp
          · obtain ⟨j, m', hj, h⟩ := ih.i1 p hp; exact ⟨j, m', by omega, h⟩
          · simp at hp; exact ⟨i, m, by omega, hF, hp⟩
        · obtain ⟨j, m', hj, h⟩ := ih.i2 s hs; exact ⟨j, m', by omega, h⟩
        · show okPermits [] (a.1 ++ [⟨m.car, nOf wl m⟩]) = true
          rw [okPermits_snoc, ih.i3]
          have h1 : (([] ++ a.1).any fun q => q.car == m.car) = false := by
            rw [List.any_eq_false]; intro q hq; simpa using hno q (by simpa using hq)
          have h2 : known m.car = true := known_iff.2 ⟨hF.2.1, hF.2.2.1⟩
          have h3 : power (nOf wl m) = true := power_iff.2 ⟨n0, n1⟩
          simp [h2, h3]; exact hno
        · by_cases e : j = i
          · subst e
            have : m' = m := Option.some.inj (hf.1.symm.trans hm)
            subst this
            exact .inl ⟨by simp, hns⟩
          · have hne := old j m' (by omega) hf
            rcases ih.i6 j m' (by omega) hf with ⟨h1, h2⟩ | ⟨h1, h2⟩
            · exact .inl ⟨by simp [h1], h2⟩
            · refine .inr ⟨h1, fun p hp => ?_⟩
              rcases List.mem_append.1 hp with hp | hp
              · exact h2 p hp
              · simp at hp; subst hp; exact fun e => hne e.symm
/-- Who is first has a permit, of what it may draw at least, or must stop. -/
theorem ag_has {wl : List Permit} {bud : Int} {ms : List Permit} {i : Nat} {m : Permit} {a : List Permit × List Int} (h : AgInv wl bud ms ms.length a) (hi : First ms i m) :
    (0 ≤ idxOf (fun p : Permit => decide (p.car = m.car)) a.1 ∧ min m.peak 1048576 ≤ (oneOf (fun p : Permit => decide (p.car = m.car)) a.1).peak ∧ a.2.contains m.car = false) ∨
    (¬ 0 ≤ idxOf (fun p : Permit => decide (p.car = m.car)) a.1 ∧ a.2.contains m.car = true) := by
  have hlt : i < ms.length := (List.getElem?_eq_some_iff.1 hi.1).1
  have hany := idxOf_any (fun p : Permit => decide (p.car = m.car)) a.1
  rcases h.i6 i m hlt hi with ⟨h1, h2⟩ | ⟨h1, h2⟩
  · left
    have hidx : 0 ≤ idxOf (fun p : Permit => decide (p.car = m.car)) a.1 := by
      have : a.1.any (fun p : Permit => decide (p.car = m.car)) = true := List.any_eq_true.2 ⟨_, h1, by simp⟩
      rw [this] at hany
      simpa using hany.symm
    refine ⟨hidx, ?_, by simpa using h2⟩
    obtain ⟨x, hx1, hx2, _⟩ := idxOf_get (p := fun p : Permit => decide (p.car = m.car)) (l := a.1) (by omega)
    have hxm : x ∈ a.1 := List.mem_of_find?_eq_some hx2
    have hxc : x.car = m.car := by simpa using List.find?_some hx2
    obtain ⟨j, m', _, hf, rfl⟩ := h.i1 x hxm
    have hj := first_eq hf hi hxc
    subst hj
    have hmm : m' = m := Option.some.inj (hf.1.symm.trans hi.1)
    subst hmm
    unfold oneOf
    rw [hx2]
    exact (nOf_range wl m').2.2
  · right
    refine ⟨fun hc => ?_, by simpa using h1⟩
    obtain ⟨x, hx1, hx2, _⟩ := idxOf_get (p := fun p : Permit => decide (p.car = m.car)) (l := a.1) (by omega)
    exact h2 x (List.mem_of_find?_eq_some hx2) (by simpa using List.find?_some hx2)
end Go.Proofs.YtcmlklnelipacaaDoor

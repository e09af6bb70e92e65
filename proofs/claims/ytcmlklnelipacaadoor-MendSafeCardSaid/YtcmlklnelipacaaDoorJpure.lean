/- Plain definitions and laws of octets, sums, ledgers and journals: lists and numbers alone. -/
namespace Go.Proofs.YtcmlklnelipacaaDoor.Plain

/-! ### bytes of numbers -/
/-- the n bytes of a number, the lowest first -/
def leB : Nat → Int → List Int
  | 0, _ => []
  | n + 1, x => x % 256 :: leB n (x / 256)
/-- the number of bytes, the lowest first -/
def leN : List Int → Int
  | [] => 0
  | d :: l => d + 256 * leN l
theorem leB_length (n : Nat) : ∀ x, (leB n x).length = n := by
  induction n with
  | zero => intro x; rfl
  | succ n ih => intro x; simp [leB, ih]
def isB (l : List Int) : Prop := ∀ x ∈ l, 0 ≤ x ∧ x < 256
theorem leB_isB (n : Nat) : ∀ x, isB (leB n x) := by
  induction n with
  | zero => intro x y h; simp [leB] at h
  | succ n ih =>
    intro x y h
    simp only [leB, List.mem_cons] at h
    rcases h with rfl | h
    · omega
    · exact ih _ _ h
theorem leN_leB1 (n : Nat) : ∀ x : Int, leN (leB n x) = x % ((256 ^ n : Nat) : Int) := by
  induction n with
  | zero => intro x; simp [leB, leN]
  | succ n ih =>
    intro x
    simp only [leB, leN, ih]
    have h1 : ((256 ^ (n + 1) : Nat) : Int) = 256 * ((256 ^ n : Nat) : Int) := by rw [Nat.pow_succ, Nat.mul_comm, Int.natCast_mul]; rfl
    rw [h1]
    have hp : (0 : Int) < ((256 ^ n : Nat) : Int) := by
      have : 0 < 256 ^ n := Nat.pow_pos (by decide)
      omega
    have h2 := Int.emod_add_mul_ediv x 256
    have h3 := Int.emod_add_mul_ediv (x / 256) ((256 ^ n : Nat) : Int)
    have h4 := Int.emod_nonneg (x / 256) (b := ((256 ^ n : Nat) : Int)) (by omega)
    have h5 := Int.emod_lt_of_pos (x / 256) hp
    generalize hq : x / 256 / ((256 ^ n : Nat) : Int) = q at *
    generalize hr : x / 256 % ((256 ^ n : Nat) : Int) = r at *
    generalize hP : ((256 ^ n : Nat) : Int) = P at *
    have hx : x = (x % 256 + 256 * r) + 256 * P * q := by
      have : P * q = x / 256 - r := by omega
      have h6 : 256 * P * q = 256 * (P * q) := Int.mul_assoc _ _ _
      omega
    rw [hx, Int.add_mul_emod_self_left]
    have hb : x % 256 + 256 * r < 256 * P := by omega
    have hb0 : 0 ≤ x % 256 + 256 * r := by omega
    have e1 : (x % 256 + 256 * r + 256 * P * q) % 256 = x % 256 := by
      have h6 : 256 * P * q = 256 * (P * q) := Int.mul_assoc _ _ _
      omega
    rw [e1]
    exact (Int.emod_eq_of_lt hb0 hb).symm
theorem leN_leB8 (x : Int) (h0 : 0 ≤ x) (h1 : x < 18446744073709551616) : leN (leB 8 x) = x := by
  rw [leN_leB1]; have : ((256 ^ 8 : Nat) : Int) = 18446744073709551616 := by decide
  omega
theorem leN_leB4 (x : Int) (h0 : 0 ≤ x) (h1 : x < 4294967296) : leN (leB 4 x) = x := by
  rw [leN_leB1]; have : ((256 ^ 4 : Nat) : Int) = 4294967296 := by decide
  omega
theorem leN_bound (l : List Int) (h : isB l) : 0 ≤ leN l ∧ leN l < ((256 ^ l.length : Nat) : Int) := by
  induction l with
  | nil => simp [leN]
  | cons d l ih =>
    have hd := h d (by simp)
    have := ih (fun x hx => h x (by simp [hx]))
    simp only [leN, List.length_cons]
    have h1 : ((256 ^ (l.length + 1) : Nat) : Int) = 256 * ((256 ^ l.length : Nat) : Int) := by rw [Nat.pow_succ, Nat.mul_comm, Int.natCast_mul]; rfl
    rw [h1]; omega


/-! ### ledgers -/
structure Permit where
  car : Int
  peak : Int
  deriving DecidableEq, Repr
structure Ledger where
  budget : Int
  margin : Int
  credit : Int
  l : List Permit
  deriving DecidableEq, Repr
def Ledger.zero : Ledger := ⟨0, 0, 0, []⟩
def known (c : Int) : Bool := decide (0 ≤ c) && decide (c < 64)
def power (x : Int) : Bool := decide (0 ≤ x) && decide (x ≤ 1048576)
/-- a number within the bounds of package sat -/
def bnd (x : Int) : Int := max (min x 1099511627776) (-1099511627776)
def sadd (a b : Int) : Int := bnd (bnd a + bnd b)
def ssum (l : List Int) : Int := l.foldl sadd 0
def Ledger.sum (l : Ledger) : Int := ssum (l.l.map (·.peak))
def Ledger.has (l : Ledger) (car : Int) : Option Permit := l.l.find? (fun p => p.car == car)
/-- each car once, and known; each peak a power -/
def okPermits : List Permit → List Permit → Bool
  | _, [] => true
  | pre, p :: r => !(pre.any (fun q => q.car == p.car)) && known p.car && power p.peak && okPermits (pre ++ [p]) r
def check (l : Ledger) : Bool :=
  okPermits [] l.l && (power l.budget && (power l.margin && (power l.credit && decide (l.sum ≤ l.budget))))

/-! ### rows of bytes -/
def join (rows : List (List Int)) : List Int := rows.flatMap fun r => leB 2 ((r.take 65535).length : Int) ++ r.take 65535
/-- the rows of bytes; none: they end too early -/
def part : (fuel : Nat) → List Int → Option (List (List Int))
  | 0, _ => none
  | _ + 1, [] => some []
  | _ + 1, [_] => none
  | k + 1, x :: y :: r => if (r.length : Int) < x + y * 256 then none else (part k (r.drop (x + y * 256).toNat)).map (r.take (x + y * 256).toNat :: ·)
/-- numbers of n bytes each -/
def chunks (n : Nat) : (fuel : Nat) → List Int → List (List Int)
  | 0, _ => []
  | _ + 1, [] => []
  | k + 1, x :: r => (x :: r).take n :: chunks n k ((x :: r).drop n)
def nums (n : Nat) (b : List Int) : List Int := (chunks n (b.length + 1) b).map leN
def pairs : List Int → List Permit
  | a :: b :: r => ⟨a, b⟩ :: pairs r
  | _ => []

/-! ### sums of bytes -/
variable (crc : List Int → Int)
def sealB (b : List Int) : List Int := b ++ leB 4 (crc b)
/-- the bytes ahead of the sum; none: it isn't theirs -/
def opn (b : List Int) : Option (List Int) :=
  if b.length < 4 then none else if sealB crc (b.take (b.length - 4)) = b then some (b.take (b.length - 4)) else none

/-! ### the journal -/
def jput (l : Ledger) (seq : Int) : List Int :=
  sealB crc (join [leB 8 seq, leB 4 l.budget ++ leB 4 l.margin, l.l.flatMap fun p => leB 4 p.car ++ leB 4 p.peak])
def jget (b : List Int) : Ledger × Int × Int :=
  match opn crc b with
  | none => (.zero, 0, 12)
  | some c =>
    match part (c.length + 1) c with
    | none => (.zero, 0, 10)
    | some [r0, r1, r2] =>
      if r0.length = 8 ∧ r1.length = 8 ∧ r2.length % 8 = 0 then
        let out : Ledger := ⟨(nums 4 r1).getD 0 0, (nums 4 r1).getD 1 0, 0, pairs (nums 4 r2)⟩
        if check out then (out, (nums 8 r0).getD 0 0, 0) else (.zero, 0, 11)
      else (.zero, 0, 11)
    | some _ => (.zero, 0, 11)
structure Journal where
  s0 : List Int
  s1 : List Int
  last : Int
  was : List Int
  wrote : Bool
def jstep (i : Int) (b : List Int) (acc : Ledger × Int) : Ledger × Int :=
  let (l, seq, e) := jget crc b
  if e = 0 ∧ seq % 2 = i ∧ acc.2 < seq then (l, seq) else acc
def jload (j : Journal) : Ledger × Int := jstep crc 1 j.s1 (jstep crc 0 j.s0 (.zero, 0))
def jwrite (j : Journal) (l : Ledger) : Journal :=
  let seq := ((jload crc j).2 + 1) % 18446744073709551616
  if seq % 2 = 0 then { s0 := jput crc l seq, s1 := j.s1, last := 0, was := j.s0, wrote := true }
  else { s0 := j.s0, s1 := jput crc l seq, last := 1, was := j.s1, wrote := true }
def jtear (j : Journal) (n : Int) : Journal :=
  let now := if j.last = 0 then j.s0 else j.s1
  let n := max n 0
  if !j.wrote || decide (n ≥ now.length) then j
  else
    let torn := now.take n.toNat ++ j.was.drop (min n.toNat j.was.length)
    if j.last = 0 then { j with s0 := torn } else { j with s1 := torn }


/-! ### what is put is got -/
theorem leB2 (n : Int) : leB 2 n = [n % 256, n / 256 % 256] := rfl
theorem part_join (rows : List (List Int)) (h : ∀ r ∈ rows, r.length ≤ 65535) : ∀ k, rows.length < k → part k (join rows) = some rows := by
  induction rows with
  | nil => intro k hk; obtain ⟨k, rfl⟩ : ∃ m, k = m + 1 := ⟨k - 1, by omega⟩; rfl
  | cons r rows ih =>
    intro k hk
    obtain ⟨k, rfl⟩ : ∃ m, k = m + 1 := ⟨k - 1, by omega⟩
    have hr : r.length ≤ 65535 := h r (by simp)
    have ht : r.take 65535 = r := List.take_of_length_le hr
    have e : join (r :: rows) = ((r.length : Int) % 256) :: ((r.length : Int) / 256 % 256) :: (r ++ join rows) := by
      simp only [join, List.flatMap_cons, ht, leB2]
      rfl
    rw [e]
    have hn : (r.length : Int) % 256 + (r.length : Int) / 256 % 256 * 256 = r.length := by omega
    simp only [part, hn]
    rw [if_neg (by rw [List.length_append]; omega)]
    simp only [Int.toNat_natCast, List.drop_left, List.take_left]
    rw [ih (fun r' h' => h r' (by simp [h'])) k (by simp at hk; omega)]
    rfl
theorem leB4_length (x : Int) : (leB 4 x).length = 4 := leB_length 4 x
theorem leB8_length (x : Int) : (leB 8 x).length = 8 := leB_length 8 x
theorem opn_seal (b : List Int) : opn crc (sealB crc b) = some b := by
  have hl : (sealB crc b).length = b.length + 4 := by simp [sealB, leB_length]
  have ht : (sealB crc b).take ((sealB crc b).length - 4) = b := by
    rw [hl, Nat.add_sub_cancel]; exact List.take_left ..
  unfold opn
  rw [if_neg (by omega), ht, if_pos rfl]
/-- numbers of n bytes each, out of their bytes -/
theorem chunks_flat (n : Nat) (hn : 0 < n) (rs : List (List Int)) (h : ∀ r ∈ rs, r.length = n) : ∀ k, rs.length < k → chunks n k rs.flatten = rs := by
  induction rs with
  | nil => intro k hk; obtain ⟨k, rfl⟩ : ∃ m, k = m + 1 := ⟨k - 1, by omega⟩; rfl
  | cons r rs ih =>
    intro k hk
    obtain ⟨k, rfl⟩ : ∃ m, k = m + 1 := ⟨k - 1, by omega⟩
    have hr : r.length = n := h r (by simp)
    match r, hr with
    | [], hr => simp at hr; omega
    | x :: r, hr =>
      have e : (x :: r) ++ rs.flatten = x :: (r ++ rs.flatten) := rfl
      simp only [List.flatten_cons, e, chunks]
      rw [← e, ← hr, List.take_left, List.drop_left, hr, ih (fun r' h' => h r' (by simp [h'])) k (by simp at hk; omega)]
theorem flatten_len (n : Nat) (rs : List (List Int)) (h : ∀ r ∈ rs, r.length = n) : rs.flatten.length = rs.length * n := by
  induction rs with
  | nil => simp
  | cons r rs ih => simp [h r (by simp), ih (fun r' h' => h r' (by simp [h'])), Nat.succ_mul]; omega
theorem nums_flat (n : Nat) (hn : 0 < n) (xs : List Int) (h : ∀ x ∈ xs, leN (leB n x) = x) : nums n (xs.map (leB n)).flatten = xs := by
  unfold nums
  rw [chunks_flat n hn _ (by intro r hr; obtain ⟨x, _, rfl⟩ := List.mem_map.1 hr; exact leB_length n x)]
  · rw [List.map_map]
    exact (List.map_congr_left (fun x hx => h x hx)).trans (List.map_id _)
  · rw [flatten_len n _ (by intro r hr; obtain ⟨x, _, rfl⟩ := List.mem_map.1 hr; exact leB_length n x), List.length_map]
    have : xs.length ≤ xs.length * n := Nat.le_mul_of_pos_right _ hn
    omega
theorem power_iff {x : Int} : power x = true ↔ 0 ≤ x ∧ x ≤ 1048576 := by simp [power]
theorem known_iff {x : Int} : known x = true ↔ 0 ≤ x ∧ x < 64 := by simp [known]
theorem okPermits_all : ∀ (l pre : List Permit), okPermits pre l = true → ∀ p ∈ l, known p.car = true ∧ power p.peak = true := by
  intro l
  induction l with
  | nil => intro pre _ p hp; cases hp
  | cons q l ih =>
    intro pre h p hp
    simp only [okPermits, Bool.and_eq_true] at h
    rcases List.mem_cons.1 hp with rfl | hp
    · exact ⟨h.1.1.2, h.1.2⟩
    · exact ih _ h.2 p hp
theorem check_parts {l : Ledger} (h : check l = true) : okPermits [] l.l = true ∧ power l.budget = true ∧ power l.margin = true ∧ power l.credit = true ∧ l.sum ≤ l.budget := by
  simp only [check, Bool.and_eq_true, decide_eq_true_eq] at h
  exact ⟨h.1, h.2.1, h.2.2.1, h.2.2.2.1, h.2.2.2.2⟩
theorem pairs_flat (ps : List Permit) : pairs (ps.flatMap fun p => [p.car, p.peak]) = ps := by
  induction ps with
  | nil => rfl
  | cons p ps ih => simp only [List.flatMap_cons, List.cons_append, List.nil_append, pairs, ih]
theorem permits_flat (ps : List Permit) : (ps.flatMap fun p => leB 4 p.car ++ leB 4 p.peak) = ((ps.flatMap fun p => [p.car, p.peak]).map (leB 4)).flatten := by
  induction ps with
  | nil => rfl
  | cons p ps ih => simp [List.flatMap_cons, ih]
theorem permits_len (ps : List Permit) : (ps.flatMap fun p => leB 4 p.car ++ leB 4 p.peak).length = 8 * ps.length := by
  induction ps with
  | nil => rfl
  | cons p ps ih => simp [List.flatMap_cons, ih, leB4_length]; omega
theorem nums_pair (x y : Int) (hx : leN (leB 4 x) = x) (hy : leN (leB 4 y) = y) : nums 4 (leB 4 x ++ leB 4 y) = [x, y] := by
  have := nums_flat 4 (by decide) [x, y] (by intro z hz; simp at hz; rcases hz with rfl | rfl <;> assumption)
  simpa using this
theorem nums_one (x : Int) (hx : leN (leB 8 x) = x) : nums 8 (leB 8 x) = [x] := by
  have := nums_flat 8 (by decide) [x] (by intro z hz; simp at hz; subst hz; assumption)
  simpa using this

theorem jget_jput (l : Ledger) (seq : Int) (hc : check l = true) (hlen : l.l.length ≤ 8000) (h0 : 0 ≤ seq) (h1 : seq < 18446744073709551616) :
    jget crc (jput crc l seq) = ({ l with credit := 0 }, seq, 0) := by
  obtain ⟨hok, hb, hm, _, hs⟩ := check_parts hc
  have hb' := power_iff.1 hb
  have hm' := power_iff.1 hm
  unfold jget jput
  rw [opn_seal]
  simp only []
  rw [part_join]
  rotate_left
  · intro r hr
    simp only [List.mem_cons, List.not_mem_nil, or_false] at hr
    rcases hr with rfl | rfl | rfl
    · rw [leB8_length]; omega
    · simp [leB4_length]
    · rw [permits_len]; omega
  · simp only [join, List.flatMap_cons, List.flatMap_nil, List.append_nil, List.length_append, leB_length, List.length_cons, List.length_nil]; omega
  simp only []
  rw [if_pos ⟨leB8_length _, by simp [leB4_length], by rw [permits_len]; omega⟩]
  have hall := okPermits_all _ _ hok
  have e2 : nums 4 (l.l.flatMap fun p => leB 4 p.car ++ leB 4 p.peak) = l.l.flatMap fun p => [p.car, p.peak] := by
    rw [permits_flat, nums_flat 4 (by decide)]
    intro x hx
    obtain ⟨p, hp, hx⟩ := List.mem_flatMap.1 hx
    have hk := known_iff.1 (hall p hp).1
    have hw := power_iff.1 (hall p hp).2
    simp at hx
    rcases hx with rfl | rfl <;> exact leN_leB4 _ (by omega) (by omega)
  have e1 := nums_pair l.budget l.margin (leN_leB4 _ (by omega) (by omega)) (leN_leB4 _ (by omega) (by omega))
  rw [e1, e2, pairs_flat, nums_one _ (leN_leB8 _ h0 h1)]
  have hck : check ⟨l.budget, l.margin, 0, l.l⟩ = true := by
    simp only [check, Bool.and_eq_true, decide_eq_true_eq]
    exact ⟨hok, hb, hm, rfl, hs⟩
  simp only [List.getD_cons_zero, List.getD_cons_succ]
  rw [if_pos hck]

end Go.Proofs.YtcmlklnelipacaaDoor.Plain

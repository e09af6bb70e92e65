/- Arguments opened (what a slice or a struct that came in reads as) and shut again (nothing that was there has turned). Over whatever program. -/
import Derived.Test.YtcmlklnelipacaaDoorLogF
import Derived.Deep.Slices
import Derived.Carry
import Derived.ChangeSame
import Derived.LaidMore
import Derived.Stop.Joined
import Derived.ProofKit
import Derived.OpenShut
import Derived.Handed
set_option linter.unusedVariables false
set_option linter.unusedSimpArgs false
namespace Go.Proofs.YtcmlklnelipacaaDoor
open Go.RowKit Go.ChangeShapes Go.WideShapes

/-- Whatever of type t is read has cells 'enc a', of an a that is good. -/
def OpensTo (P : Program) (t : TypeId) {α : Type} (enc : α → List Value) (Good : World → α → Prop) : Prop :=
  ∀ {H : Type} (en : TypeId × Value → H) (w : World) (fuel : Nat) (cs : List Value) (x : DataW H × List MemPlace), DataW.trod en P w 0 (fun _ => true) true fuel t cs = some x → ∃ a : α, cs = enc a ∧ Good w a
theorem OpensTo.map {P : Program} {t : TypeId} {α β : Type} {enc : α → List Value} {Good : World → α → Prop} (h : OpensTo P t enc Good) (f : α → β) {enc' : β → List Value} {Good' : World → β → Prop} (he : ∀ a, enc a = enc' (f a)) (hg : ∀ w a, Good w a → Good' w (f a)) : OpensTo P t enc' Good' := by
  intro H en w fuel cs x hx
  obtain ⟨a, rfl, h2⟩ := h en w fuel cs x hx
  exact ⟨f a, he a, hg w a h2⟩
theorem opens_int {P : Program} {t : TypeId} {k : IntKind} (ht : P.underlying t = some (.int k)) : OpensTo P t (fun n : Int => [.int k n]) (fun _ n => k.min ≤ n ∧ n ≤ k.max) := by
  intro H en w fuel cs x hx
  obtain ⟨n, rfl, _, hw⟩ := DataW.trod_int ht hx
  simp only [Lit.wf, Bool.and_eq_true, decide_eq_true_eq] at hw
  exact ⟨n, rfl, hw⟩
theorem opens_bool {P : Program} {t : TypeId} (ht : P.underlying t = some .bool) : OpensTo P t (fun b : Bool => [.bool b]) (fun _ _ => True) := by
  intro H en w fuel cs x hx
  obtain ⟨b, h1, _⟩ := DataW.trod_bool ht hx
  exact ⟨b, h1, trivial⟩
theorem opens_string {P : Program} {t : TypeId} (ht : P.underlying t = some .string) : OpensTo P t (fun s : ByteArray => [.string s]) (fun _ s => s.size ≤ maxLen) := by
  intro H en w fuel cs x hx
  cases fuel with
  | zero => simp [DataW.trod] at hx
  | succ n =>
    unfold DataW.trod at hx
    rw [ht] at hx
    split at hx <;> simp_all
/-- A slice that came in. -/
structure Sl (α : Type) where
  ao : Option Addr
  c : Nat
  xs : List α
def encSl {α : Type} (s : Sl α) : List Value := [.slice s.ao s.xs.length s.c]
theorem build_list {α : Type} {p : Nat → α → Prop} : ∀ n, (∀ i, i < n → ∃ x, p i x) → ∃ xs : List α, xs.length = n ∧ ∀ i x, xs[i]? = some x → p i x
  | 0, _ => ⟨[], rfl, by simp⟩
  | n + 1, h => by
    obtain ⟨xs, hl, hx⟩ := build_list n (fun i hi => h i (by omega))
    obtain ⟨y, hy⟩ := h n (by omega)
    refine ⟨xs ++ [y], by simp [hl], fun i x hi => ?_⟩
    by_cases hlt : i < xs.length
    · rw [List.getElem?_append_left hlt] at hi; exact hx i x hi
    · rw [List.getElem?_append_right (by omega)] at hi
      have : i = n := by
        have := (List.getElem?_eq_some_iff.1 hi).1
        simp at this; omega
      subst this
      simp [hl] at hi
      subst hi; exact hy
theorem opens_slice {P : Program} {t e : TypeId} {α : Type} {enc : α → List Value} {Good : World → α → Prop} {k : Nat} (ht : P.underlying t = some (.slice e)) (he : OpensTo P e enc Good) (hk : ∀ x, (enc x).length = k) (hc : P.cellsOf e = k) (hk0 : 0 < k) :
    OpensTo P t (encSl (α := α)) (fun w s => Rd (fun _ => True) w k (.slice s.ao s.xs.length s.c) (s.xs.map enc) ∧ (∀ x ∈ s.xs, Good w x) ∧ s.xs.length ≤ maxLen ∧ s.c ≤ maxLen) := by
  intro H en w fuel cs x hx
  rcases Deep.open_slice ht hx with ⟨rfl, _⟩ | ⟨a, len, cap, m, n, D, Pl, rfl, _, hl, hm, hmm, _, hel⟩
  · exact ⟨⟨none, 0, []⟩, rfl, Rd.nil _ _, (fun _ h => by cases h), (Nat.zero_le _), (Nat.zero_le _)⟩
  · simp only [if_true] at hmm
    subst hmm
    obtain ⟨xs, hxl, hxs⟩ := build_list (p := fun i x => w.cells? 0 (a.add (i * k)) k = some (enc x) ∧ Good w x) len (fun i hi => by
      obtain ⟨cs', h1, h2⟩ := hel i (by omega)
      obtain ⟨y, rfl, hg⟩ := he en w n cs' _ h2
      rw [hc] at h1
      exact ⟨y, h1, hg⟩)
    refine ⟨⟨some a, m, xs⟩, by simp [encSl, hxl], ?_, fun x hx => ?_, by simp only [hxl]; omega, hm⟩
    · refine ⟨some a, m, by simp, by simp [hxl]; omega, fun cs hcs => ?_, fun hne => ?_⟩
      · obtain ⟨x, _, rfl⟩ := List.mem_map.1 hcs
        exact hk x
      · have hpos : 0 < xs.length := by
          cases xs with
          | nil => simp at hne
          | cons _ _ => simp
        have h0 := (hxs 0 xs[0] (by simp [hpos])).1
        have hcell := (World.cells?_some h0).2.2 0 hk0
        rw [Nat.zero_mul, show (a.add 0).add 0 = a by simp [Addr.add]] at hcell
        have hlen0 : 0 < (enc xs[0]).length := by rw [hk]; exact hk0
        rw [List.getElem?_eq_getElem hlen0] at hcell
        obtain ⟨b, o, sp⟩ := a
        have hsp : sp = none := by
          cases sp with
          | none => rfl
          | some z =>
            exfalso
            unfold World.cell? at hcell
            split at hcell <;> simp at hcell
        subst hsp
        refine ⟨b, o, rfl, ?_, trivial, fun i cs hi j v hj => ?_⟩
        · obtain ⟨ob, hob, _⟩ := cells_of_cell hcell
          exact (Array.getElem?_eq_some_iff.1 hob).1
        · rw [List.getElem?_map] at hi
          obtain ⟨x, hx1, rfl⟩ := Option.map_eq_some_iff.1 hi
          have h1 := (hxs i x hx1).1
          have hjl : j < k := by
            have := (List.getElem?_eq_some_iff.1 hj).1
            rwa [hk] at this
          have h2 := (World.cells?_some h1).2.2 j hjl
          rw [add_lit] at h2 ⊢
          rw [add_lit] at h2
          rw [h2, hj]
    · obtain ⟨i, hi⟩ := List.mem_iff_getElem?.1 hx
      exact (hxs i x hi).2
/-- Fields one behind the other. -/
def OpensRow (P : Program) (l : List (TypeId × Nat)) (o : Nat) {α : Type} (enc : α → List Value) (Good : World → α → Prop) : Prop :=
  ∀ {H : Type} (en : TypeId × Value → H) (w : World) (fuel : Nat) (cs : List Value) (xs : List (DataW H × List MemPlace)), xs.length = l.length →
    (∀ (i : Nat) (t : TypeId) (f : Nat), l[i]? = some (t, f) → DataW.trod en P w 0 (fun _ => true) true fuel t ((cs.drop f).take (P.cellsOf t)) = xs[i]?) → ∃ a : α, cs.drop o = enc a ++ cs.drop (o + (enc a).length) ∧ Good w a
theorem opensRow_nil {P : Program} {o : Nat} : OpensRow P [] o (fun _ : Unit => []) (fun _ _ => True) := by
  intro H en w fuel cs xs _ _
  exact ⟨(), by simp, trivial⟩
theorem opensRow_cons {P : Program} {t : TypeId} {l : List (TypeId × Nat)} {o k : Nat} {α β : Type} {ea : α → List Value} {eb : β → List Value} {ga : World → α → Prop} {gb : World → β → Prop} (h1 : OpensTo P t ea ga) (hc : P.cellsOf t = k) (hk : ∀ a, (ea a).length = k) (h2 : OpensRow P l (o + k) eb gb) :
    OpensRow P ((t, o) :: l) o (fun p : α × β => ea p.1 ++ eb p.2) (fun w p => ga w p.1 ∧ gb w p.2) := by
  intro H en w fuel cs xs hl hx
  match xs, hl with
  | x0 :: xs, hl =>
    have e0 := hx 0 t o rfl
    simp only [List.getElem?_cons_zero] at e0
    obtain ⟨a, ha, hga⟩ := h1 en w fuel _ _ e0
    rw [hc] at ha
    obtain ⟨b, hb, hgb⟩ := h2 en w fuel cs xs (by simpa using hl) (fun i t' f hi => by
      have := hx (i + 1) t' f (by simpa using hi)
      simpa using this)
    refine ⟨(a, b), ?_, hga, hgb⟩
    have hsplit : cs.drop o = (cs.drop o).take k ++ (cs.drop o).drop k := (List.take_append_drop _ _).symm
    rw [hsplit, ha, List.drop_drop, hb]
    simp [hk, Nat.add_assoc, List.append_assoc]
theorem opens_struct {P : Program} {t : TypeId} {fs : Array Field} {l : List (TypeId × Nat)} {α : Type} {enc : α → List Value} {Good : World → α → Prop} (ht : P.underlying t = some (.struct fs)) (hl : fs.toList.map (fun f => (f.type, f.offset)) = l) (h : OpensRow P l 0 enc Good) (hk : ∀ a, (enc a).length = P.cellsOf t) : OpensTo P t enc Good := by
  intro H en w fuel cs x hx
  obtain ⟨xs, n, rfl, rfl, hlen, hxl, hf⟩ := DataW.trod_struct ht hx
  obtain ⟨a, ha, hg⟩ := h en w n cs xs (by rw [hxl, ← hl]; simp) (fun i t' f hi => by
    rw [← hl, List.getElem?_map] at hi
    obtain ⟨g, hg1, hg2⟩ := Option.map_eq_some_iff.1 hi
    simp only [Prod.mk.injEq] at hg2
    obtain ⟨rfl, rfl⟩ := hg2
    exact hf i g (by simpa using hg1))
  refine ⟨a, ?_, hg⟩
  simp only [List.drop_zero, Nat.zero_add] at ha
  have : cs.drop (enc a).length = [] := List.drop_eq_nil_of_le (by rw [hk, hlen]; exact Nat.le_refl _)
  rw [this, List.append_nil] at ha
  exact ha
/-! ### values -/
theorem Trod.open1 {P : Program} {H : Type} {en : TypeId × Value → H} {t : TypeId} {α : Type} {enc : α → List Value} {Good : World → α → Prop} (h : OpensTo P t enc Good) {w : World} {v : Value} {d : DataW H} {ps : List MemPlace} (hd : DataW.Trod en P w 0 (fun _ => true) true t v d ps) : ∃ a, v.cells.toList = enc a ∧ Good w a := by
  obtain ⟨fuel, hf⟩ := hd
  exact h en w fuel _ _ hf
/-- A value of one cell. -/
theorem one_of_cells {P : Program} {w : World} {r : Reach} {b : Nat} {t : TypeId} {v c : Value} (hn : (match P.underlying t with | some (.struct _) | some (.array _ _) => false | _ => true) = true) (hval : Value.okWide P w r b t v) (h : v.cells.toList = [c]) (hc : one c = true) : v = c := by
  cases v with
  | agg cs =>
    exfalso
    revert hval hn
    unfold Value.okWide Cell.okWide Cell.ok
    generalize P.underlying t = u
    intro hn hval
    cases u with
    | none => simp at hval
    | some d => cases d <;> simp at hn hval
  | _ => simpa [Value.cells] using h
theorem agg_of_cells {P : Program} {w : World} {r : Reach} {b : Nat} {t : TypeId} {v : Value} {cs : List Value} (hn : (match P.underlying t with | some (.struct _) | some (.array _ _) => true | _ => false) = true) (hval : Value.okWide P w r b t v) (h : v.cells.toList = cs) : v = .agg cs.toArray := by
  unfold Value.okWide at hval
  have : ∃ cs, v = .agg cs := by
    split at hval
    · obtain ⟨cs, h1, _⟩ := hval; exact ⟨cs, h1⟩
    · obtain ⟨cs, h1, _⟩ := hval; exact ⟨cs, h1⟩
    · rename_i h1 h2
      split at hn
      · rename_i e; exact absurd e (h1 _)
      · rename_i e; exact absurd e (h2 _ _)
      · cases hn
  obtain ⟨cs', rfl⟩ := this
  simp only [Value.cells] at h
  rw [← h]
/-! ### shut -/
def rowed (P : Program) (ts : List TypeId) : Bool := ts.all fun t => P.readableRec t && decide (t < P.types.size)
theorem trodAll_stays {P : Program} {H : Type} {en : TypeId × Value → H} (hl : laidOutB P = true) {W W' : World} (hb : Below W.heap.size W W') {sp : Nat → Bool} : ∀ {ts : List TypeId} {vs : List Value} {ds : List (DataW H)} {ps : List MemPlace}, rowed P ts = true → (∀ x ∈ ps, x.block < W.heap.size) → (∀ x ∈ ps, sp x.block = true) →
    DataW.TrodAll en P W 0 (fun _ => true) true ts vs ds ps → DataW.TrodAll en P W' 0 sp true ts vs ds ps
  | [], _, _, _, _, _, _, h => by
    obtain ⟨rfl, rfl, rfl⟩ := trodAll_nil h
    exact rfl
  | t :: ts, _, _, _, hr, hlt, hsp, h => by
    obtain ⟨v, vs, d, ds, p, q, rfl, rfl, rfl, h1, h2⟩ := trodAll_cons h
    simp only [rowed, List.all_cons, Bool.and_eq_true, decide_eq_true_eq] at hr
    exact ⟨p, q, WideElems.Trod_stays hl hr.1.1 hr.1.2 h1 (fun x hx => hb.same (hlt x (by simp [hx]))) (fun x hx => hsp x (by simp [hx])), trodAll_stays hl hb (by simpa [rowed] using hr.2) (fun x hx => hlt x (by simp [hx])) (fun x hx => hsp x (by simp [hx])) h2, rfl⟩
/-- A law's post: it returned true; nothing that was there has turned. -/
theorem post_law {P : Program} {H : Type} {en : TypeId × Value → H} {f : Func} {s : ChangeSpec} {apart fresh handsOn again : Bool} {W W' : World} {args : Array Value} {ds gs : List (DataW H)} {before : List MemPlace} {t : TypeId}
    (hl : laidOutB P = true) (hr : rowed P f.params.toList = true) (hv : s.vars = []) (hrt : f.resultTypes = #[t]) (ht : P.underlying t = some .bool)
    (hW : DataW.Whole en P f.params.toList s.vars apart W args.toList ds gs before) (hE : Ext W W')
    (hfn : s.fn H (ds ++ gs) = { results := [.lit (.bool true)], args := ds }) : s.post en P f apart fresh handsOn again W args (.bool true) W' := by
  have hlt : ∀ p ∈ before, p.block < W.heap.size := fun p hp => hW.lt p hp
  have hW' := hW
  obtain ⟨p, q, hA, hV, hpq, hz, hn⟩ := hW
  have hb : Below W.heap.size W W' := hE.below
  rw [hv] at hV
  obtain ⟨rfl, rfl⟩ : gs = [] ∧ q = [] := by
    cases gs with
    | nil => exact ⟨rfl, hV⟩
    | cons _ _ => exact hV.elim
  rw [List.append_nil] at hpq
  subst hpq
  have args' : ∀ sp : Nat → Bool, (∀ x ∈ before, sp x.block = true) → DataW.TrodAll en P W' 0 sp true f.params.toList args.toList ds before := fun sp hsp => trodAll_stays hl hb hr hlt hsp hA
  have res : ∀ (b : Nat) (sp : Nat → Bool) (hd : Bool), DataW.TrodAll en P W' b sp hd f.resultTypes.toList ((Value.bool true).resultList f.resultTypes.size) [.lit (.bool true)] [] := fun b sp hd => by
    rw [hrt]
    exact trodAll_mk1 (shut_bool ht true)
  have ok : ∀ (j : Nat) (t : TypeId) (r : Value), f.resultTypes[j]? = some t → ((Value.bool true).resultList f.resultTypes.size)[j]? = some r → Value.okWide P W' .any 0 t r := ok_one hrt rfl (okWide_bool_mk ht true)
  refine ⟨ds, [], before, [], before, [], hW', ?_, ?_, ?_, ?_, ?_⟩
  · rw [hfn]; exact res _ _ _
  · rw [hfn]; exact args' _ (fun x hx => by simpa using hlt x hx)
  · rw [hfn, hv]; exact rfl
  · exact hb.frame _
  · intro _
    refine ⟨ok, .lit (.bool true) :: ds, [], before, ⟨before, [], ?_, by rw [hv]; exact rfl, by simp, ?_, ?_⟩, fun p hp _ => hp⟩
    · have := trodAll_append (args' (fun _ => true) (fun _ _ => rfl)) (res 0 (fun _ => true) true)
      simpa using this
    · intro b off hp
      have h1 := hz b off hp
      have h2 := hlt _ hp
      have e := hb.block b h2
      unfold World.frozen? at h1 ⊢
      simp only [e]
      exact h1
    · exact hn
end Go.Proofs.YtcmlklnelipacaaDoor

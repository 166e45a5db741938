/-
  The evaluator's blocks against the model's memory: the relation, and how it is carried over each change.
-/
import Derived.Test.YtcnipahcheooiaaE2
namespace Go.Ev
open Go
set_option linter.unusedSectionVars false
set_option linter.unusedSimpArgs false
set_option linter.unusedVariables false

def liveB : Blk → Bool
  | .box _ | .arr _ _ | .iter _ _ => true
  | _ => false
def deadB : Blk → Bool
  | .dead => true
  | _ => false

/-- The blocks of memory that lie with those who wait for this call: it leaves them alone, and leads nobody to them. -/
class Frame where
  F : Nat → Prop

/-- The blocks of memory that the call may write. -/
def Own (H : Heap) (R : Refs) : Nat → Prop :=
  fun k => ∃ id b r o, hget H id = some b ∧ liveB b = true ∧ R id = some r ∧ r.blk = some (k, o)

variable [Frame]

/-- The blocks of memory to which nothing plain leads. -/
def Xof (H : Heap) (R : Refs) : Nat → Prop := fun k => Frame.F k ∨ Own H R k

/-- Cells of memory that hold plain rows. -/
def RowsAt (w : World) (X : Nat → Prop) (cs : Array Value) (base sz : Nat) (rows : List (List PV)) : Prop :=
  (∀ (i : Nat) (row : List PV), rows[i]? = some row → row.length = sz) ∧
  ∀ (i : Nat) (row : List PV) (j : Nat) (pv : PV), rows[i]? = some row → row[j]? = some pv →
    ∃ v, cs[base + i * sz + j]? = some v ∧ v.oneCell' = true ∧ Rep w X noRefs pv v

def BRel (w : World) (X : Nat → Prop) (R : Refs) (r : RB) : Blk → Prop
  | .box cells => r.box = true ∧ ∃ (k base : Nat) (cs : Array Value) (et : TypeId), r.blk = some (k, base) ∧ w.heap[k]? = some (.cells cs et (0, 0)) ∧
      base + cells.length ≤ cs.size ∧ ∀ (j : Nat) (pv : PV), cells[j]? = some pv → ∃ v, cs[base + j]? = some v ∧ v.oneCell' = true ∧ Rep w X R pv v
  | .arr sz rows => r.box = false ∧ r.cl = rows.length ∧ r.sz = sz ∧ ((r.blk = none ∧ rows = []) ∨
      ∃ (k base : Nat) (cs : Array Value) (et : TypeId), r.blk = some (k, base) ∧ w.heap[k]? = some (.cells cs et (0, 0)) ∧
        base + rows.length * r.sz ≤ cs.size ∧ RowsAt w X cs base r.sz rows)
  | .froz sz rows => r.box = false ∧ r.cl = rows.length ∧ r.sz = sz ∧ ((r.blk = none ∧ rows = []) ∨
      ∃ (k base : Nat) (cs : Array Value) (et : TypeId), r.blk = some (k, base) ∧ w.heap[k]? = some (.cells cs et (0, 0)) ∧
        base + rows.length * r.sz ≤ cs.size ∧ RowsAt w X cs base r.sz rows)
  | .iter s pos => r.box = true ∧ ∃ k, r.blk = some (k, 0) ∧ w.heap[k]? = some (.stringIter ⟨s.toArray⟩ pos)
  | .dead => True

structure HRel (w : World) (R : Refs) (H : Heap) : Prop where
  flt : ∀ k, Frame.F k → k < w.heap.size
  off : ∀ id b r k o, hget H id = some b → deadB b = false → R id = some r → r.blk = some (k, o) → ¬ Frame.F k
  dom : ∀ id, hget H id = none → R id = none
  has : ∀ id b, hget H id = some b → ∃ r, R id = some r ∧ BRel w (Xof H R) R r b
  inj : ∀ id id' b b' r r' k o o', hget H id = some b → hget H id' = some b' → deadB b = false → deadB b' = false →
    R id = some r → R id' = some r' → r.blk = some (k, o) → r'.blk = some (k, o') → id = id'

def ERel (w : World) (R : Refs) (H : Heap) (env : Env) (tmps : Array Value) : Prop :=
  ∀ t, Rep w (Xof H R) R (getT env t) (tmps.getD t undef)

theorem Grow.weak {w w' : World} {R : Refs} {H : Heap} (h : Grow w (Own H R) w') : Grow w (Xof H R) w' := h.mono fun _ => .inr

theorem HRel.lt {w : World} {R : Refs} {H : Heap} (h : HRel w R H) {id : Nat} {b : Blk} {r : RB} {k o : Nat}
    (hb : hget H id = some b) (hd : deadB b = false) (hr : R id = some r) (hk : r.blk = some (k, o)) : k < w.heap.size := by
  obtain ⟨r', hr', hB⟩ := h.has id b hb
  rw [hr] at hr'; cases hr'
  have lt_of : ∀ {k : Nat} {o : Obj}, w.heap[k]? = some o → k < w.heap.size := fun h => (Array.getElem?_eq_some_iff.1 h).1
  cases b with
  | box cells => obtain ⟨_, k', base, cs, et, h1, h2, _⟩ := hB; rw [hk] at h1; cases h1; exact lt_of h2
  | arr sz rows =>
    obtain ⟨_, _, _, h1 | ⟨k', base, cs, et, h1, h2, _⟩⟩ := hB
    · rw [hk] at h1; cases h1.1
    · rw [hk] at h1; cases h1; exact lt_of h2
  | froz sz rows =>
    obtain ⟨_, _, _, h1 | ⟨k', base, cs, et, h1, h2, _⟩⟩ := hB
    · rw [hk] at h1; cases h1.1
    · rw [hk] at h1; cases h1; exact lt_of h2
  | iter s pos => obtain ⟨_, k', h1, h2⟩ := hB; rw [hk] at h1; cases h1; exact lt_of h2
  | dead => cases hd

theorem live_dead {b : Blk} (h : liveB b = true) : deadB b = false := by cases b <;> first | rfl | cases h

theorem HRel.X_lt {w : World} {R : Refs} {H : Heap} (h : HRel w R H) {k : Nat} (hk : Xof H R k) : k < w.heap.size := by
  rcases hk with hk | ⟨id, b, r, o, hb, hl, hr, hk⟩
  · exact h.flt k hk
  exact h.lt hb (live_dead hl) hr hk

theorem RowsAt.mono {w w' : World} {X X' : Nat → Prop} (hG : Grow w X w') (hX : ∀ k, k < w.heap.size → ¬ X k → ¬ X' k)
    {cs : Array Value} {base sz : Nat} {rows : List (List PV)} (h : RowsAt w X cs base sz rows) : RowsAt w' X' cs base sz rows :=
  ⟨h.1, fun i row j pv hi hj => by
    obtain ⟨v, h1, h2, h3⟩ := h.2 i row j pv hi hj
    exact ⟨v, h1, h2, h3.mono hG hX (RExt.no _)⟩⟩

theorem BRel.mono {w w' : World} {X X' : Nat → Prop} {R R' : Refs} (hG : Grow w X w') (hX : ∀ k, k < w.heap.size → ¬ X k → ¬ X' k)
    (hR : RExt R R') {r : RB} {b : Blk} (hk : ∀ k o, r.blk = some (k, o) → w'.heap[k]? = w.heap[k]?) (h : BRel w X R r b) : BRel w' X' R' r b := by
  cases b with
  | box cells =>
    obtain ⟨hb, k, base, cs, et, h1, h2, h3, h4⟩ := h
    refine ⟨hb, k, base, cs, et, h1, (hk k base h1).trans h2, h3, fun j pv hj => ?_⟩
    obtain ⟨v, a1, a2, a3⟩ := h4 j pv hj
    exact ⟨v, a1, a2, a3.mono hG hX hR⟩
  | arr sz rows =>
    obtain ⟨hb, hl, hz, h1 | ⟨k, base, cs, et, h1, h2, h3, h4⟩⟩ := h
    · exact ⟨hb, hl, hz, .inl h1⟩
    · exact ⟨hb, hl, hz, .inr ⟨k, base, cs, et, h1, (hk k base h1).trans h2, h3, h4.mono hG hX⟩⟩
  | froz sz rows =>
    obtain ⟨hb, hl, hz, h1 | ⟨k, base, cs, et, h1, h2, h3, h4⟩⟩ := h
    · exact ⟨hb, hl, hz, .inl h1⟩
    · exact ⟨hb, hl, hz, .inr ⟨k, base, cs, et, h1, (hk k base h1).trans h2, h3, h4.mono hG hX⟩⟩
  | iter s pos =>
    obtain ⟨hb, k, h1, h2⟩ := h
    exact ⟨hb, k, h1, (hk k 0 h1).trans h2⟩
  | dead => trivial

/-- The relation carried over a change: what is said of each block that is another one, and where each lies. -/
theorem HRel.change {w w' : World} {R R' : Refs} {H H' : Heap} (h : HRel w R H) (hG : Grow w (Xof H R) w') (hR : RExt R R')
    (hX : ∀ k, k < w.heap.size → ¬ Xof H R k → ¬ Xof H' R' k)
    (hdom : ∀ id, hget H' id = none → R' id = none)
    (hb : ∀ id b, hget H' id = some b → (hget H id = some b ∧ R' id = R id ∧ (deadB b = true ∨ ∀ r k o, R id = some r → r.blk = some (k, o) → w'.heap[k]? = w.heap[k]?)) ∨
      ∃ r, R' id = some r ∧ BRel w' (Xof H' R') R' r b)
    (hinj : ∀ id id' b b' r r' k o o', hget H' id = some b → hget H' id' = some b' → deadB b = false → deadB b' = false →
      R' id = some r → R' id' = some r' → r.blk = some (k, o) → r'.blk = some (k, o') → id = id')
    (hoff : ∀ id b r k o, hget H' id = some b → deadB b = false → R' id = some r → r.blk = some (k, o) → ¬ Frame.F k) : HRel w' R' H' :=
  ⟨fun k hk => Nat.lt_of_lt_of_le (h.flt k hk) hG.size, hoff, hdom, fun id b hid => by
    rcases hb id b hid with ⟨h0, hr, hk⟩ | h1
    · obtain ⟨r, hr0, hB⟩ := h.has id b h0
      refine ⟨r, hr.trans hr0, ?_⟩
      rcases hk with hd | hk
      · cases b <;> first | trivial | cases hd
      · exact hB.mono hG hX hR (fun k o hb => hk r k o hr0 hb)
    · exact h1, hinj⟩

theorem hget_hset (H : Heap) (i : Nat) (b : Blk) (j : Nat) : hget (hset H i b) j = if j = i then some b else hget H j := by
  induction H with
  | nil =>
    simp only [hset, hget]
    by_cases h : j = i
    · subst h; simp
    · simp [h, show Nat.beq i j = false from by
        cases hb : Nat.beq i j
        · rfl
        · exact absurd (Nat.eq_of_beq_eq_true hb).symm h]
  | cons p r ih =>
    obtain ⟨k, c⟩ := p
    simp only [hset]
    cases hb : Nat.beq k i with
    | true =>
      have hk : k = i := Nat.eq_of_beq_eq_true hb
      subst hk
      simp only [hget]
      by_cases h : j = k
      · subst h; simp
      · simp [h, show Nat.beq k j = false from by
          cases hb : Nat.beq k j
          · rfl
          · exact absurd (Nat.eq_of_beq_eq_true hb).symm h]
    | false =>
      simp only [hget, ih]
      cases hj : Nat.beq k j with
      | true =>
        have hk : k = j := Nat.eq_of_beq_eq_true hj
        subst hk
        have hne : k ≠ i := fun e => by subst e; simp at hb
        simp [hne]
      | false => rfl

def upR (R : Refs) (id : Nat) (r : RB) : Refs := fun j => if j = id then some r else R j

theorem upR_same (R : Refs) (id : Nat) (r : RB) : upR R id r id = some r := by simp [upR]
theorem upR_ne (R : Refs) {id j : Nat} (r : RB) (h : j ≠ id) : upR R id r j = R j := by simp [upR, h]

theorem RExt.new {R : Refs} {id : Nat} (h : R id = none) (r : RB) : RExt R (upR R id r) := by
  intro j q hq
  have hne : j ≠ id := fun e => by subst e; rw [h] at hq; cases hq
  exact ⟨q, by rw [upR_ne R r hne]; exact hq, .inl rfl⟩

/-- A new block of memory, which the call's block number 'id' is from now on. -/
theorem HRel.alloc {w w' : World} {R : Refs} {H : Heap} (h : HRel w R H) {id : Nat} (hid : hget H id = none) (r : RB) (b : Blk)
    (hG : Grow w (Xof H R) w') (hold : ∀ k, k < w.heap.size → w'.heap[k]? = w.heap[k]?) (base : Nat) (hrk : r.blk = some (w.heap.size, base))
    (hB : BRel w' (Xof (hset H id b) (upR R id r)) (upR R id r) r b) :
    HRel w' (upR R id r) (hset H id b) ∧ (∀ k, k < w.heap.size → ¬ Xof H R k → ¬ Xof (hset H id b) (upR R id r) k) := by
  have hRid : R id = none := h.dom id hid
  have hX : ∀ k, k < w.heap.size → ¬ Xof H R k → ¬ Xof (hset H id b) (upR R id r) k := by
    rintro k hk hn (hF | ⟨j, c, q, o, hj, hl, hq, hb⟩)
    · exact hn (.inl hF)
    rw [hget_hset] at hj
    by_cases e : j = id
    · subst e; rw [upR_same] at hq; cases hq; rw [hrk] at hb; cases hb; omega
    · rw [if_neg e] at hj; rw [upR_ne R r e] at hq; exact hn (.inr ⟨j, c, q, o, hj, hl, hq, hb⟩)
  refine ⟨h.change hG (RExt.new hRid r) hX ?_ ?_ ?_ ?_, hX⟩
  · intro j hj
    rw [hget_hset] at hj
    by_cases e : j = id
    · rw [if_pos e] at hj; cases hj
    · rw [if_neg e] at hj; rw [upR_ne R r e]; exact h.dom j hj
  · intro j c hj
    rw [hget_hset] at hj
    by_cases e : j = id
    · rw [if_pos e] at hj; cases hj; subst e; exact .inr ⟨r, upR_same R _ r, hB⟩
    · rw [if_neg e] at hj
      refine .inl ⟨hj, upR_ne R r e, ?_⟩
      cases hd : deadB c with
      | true => exact .inl rfl
      | false => exact .inr fun q k o hq hb => hold k (h.lt hj hd hq hb)
  · intro j j' c c' q q' k o o' hj hj' hd hd' hq hq' hb hb'
    rw [hget_hset] at hj hj'
    by_cases e : j = id
    · by_cases e' : j' = id
      · rw [e, e']
      · rw [if_neg e'] at hj'; rw [upR_ne R r e'] at hq'
        have := h.lt hj' hd' hq' hb'
        subst e; rw [upR_same] at hq; cases hq; rw [hrk] at hb; cases hb; omega
    · rw [if_neg e] at hj; rw [upR_ne R r e] at hq
      by_cases e' : j' = id
      · have := h.lt hj hd hq hb
        subst e'; rw [upR_same] at hq'; cases hq'; rw [hrk] at hb'; cases hb'; omega
      · rw [if_neg e'] at hj'; rw [upR_ne R r e'] at hq'
        exact h.inj j j' c c' q q' k o o' hj hj' hd hd' hq hq' hb hb'
  · intro j c q k o hj hd hq hb hF
    rw [hget_hset] at hj
    by_cases e : j = id
    · subst e; rw [upR_same] at hq; cases hq; rw [hrk] at hb; cases hb
      have := h.flt _ hF; omega
    · rw [if_neg e] at hj; rw [upR_ne R r e] at hq
      exact h.off j c q k o hj hd hq hb hF

/-- A block whose content is another one: memory is as it was, but for that block. -/
theorem HRel.write {w w' : World} {R : Refs} {H : Heap} (h : HRel w R H) {id : Nat} {b0 b : Blk} {r r' : RB} (hid : hget H id = some b0)
    (hr : R id = some r) (hlive0 : liveB b0 = true)
    (hG : Grow w (Xof H R) w') (hold : ∀ j, j < w.heap.size → (∀ o, r.blk ≠ some (j, o)) → w'.heap[j]? = w.heap[j]?)
    (hrk' : ∀ k' o, r'.blk = some (k', o) → (∃ o', r.blk = some (k', o')) ∨ w.heap.size ≤ k')
    (he : r' = r ∨ (r.box = false ∧ r'.box = false ∧ r.cl < r'.cl))
    (hB : BRel w' (Xof (hset H id b) (upR R id r')) (upR R id r') r' b) :
    HRel w' (upR R id r') (hset H id b) ∧ RExt R (upR R id r') ∧ (∀ k, k < w.heap.size → ¬ Xof H R k → ¬ Xof (hset H id b) (upR R id r') k) := by
  have hX : ∀ k, k < w.heap.size → ¬ Xof H R k → ¬ Xof (hset H id b) (upR R id r') k := by
    rintro k1 hk hn (hF | ⟨j, c, q, o, hj, hl, hq, hb⟩)
    · exact hn (.inl hF)
    rw [hget_hset] at hj
    by_cases e : j = id
    · subst e; rw [upR_same] at hq; cases hq
      rcases hrk' k1 o hb with ⟨o', ho⟩ | hge
      · exact hn (.inr ⟨j, b0, r, o', hid, hlive0, hr, ho⟩)
      · omega
    · rw [if_neg e] at hj; rw [upR_ne R r' e] at hq; exact hn (.inr ⟨j, c, q, o, hj, hl, hq, hb⟩)
  have hRE : RExt R (upR R id r') := by
    intro j q hq
    by_cases e : j = id
    · subst e; rw [hr] at hq; cases hq; exact ⟨r', upR_same R _ r', he⟩
    · exact ⟨q, by rw [upR_ne R r' e]; exact hq, .inl rfl⟩
  refine ⟨h.change hG hRE hX ?_ ?_ ?_ ?_, hRE, hX⟩
  · intro j hj
    rw [hget_hset] at hj
    by_cases e : j = id
    · rw [if_pos e] at hj; cases hj
    · rw [if_neg e] at hj; rw [upR_ne R r' e]; exact h.dom j hj
  · intro j c hj
    rw [hget_hset] at hj
    by_cases e : j = id
    · rw [if_pos e] at hj; cases hj; subst e; exact .inr ⟨r', upR_same R _ r', hB⟩
    · rw [if_neg e] at hj
      refine .inl ⟨hj, upR_ne R r' e, ?_⟩
      cases hd : deadB c with
      | true => exact .inl rfl
      | false =>
        refine .inr fun q k1 o hq hb => hold k1 (h.lt hj hd hq hb) fun o2 hrb => ?_
        exact e (h.inj j id c b0 q r k1 o o2 hj hid hd (live_dead hlive0) hq hr hb hrb)
  · intro j j' c c' q q' k1 o o' hj hj' hd hd' hq hq' hb hb'
    rw [hget_hset] at hj hj'
    by_cases e : j = id
    · by_cases e' : j' = id
      · rw [e, e']
      · rw [if_neg e'] at hj'; rw [upR_ne R r' e'] at hq'
        subst e; rw [upR_same] at hq; cases hq
        rcases hrk' k1 o hb with ⟨o2, ho⟩ | hge
        · exact (e' (h.inj j' j c' b0 q' r k1 o' o2 hj' hid hd' (live_dead hlive0) hq' hr hb' ho)).elim
        · have := h.lt hj' hd' hq' hb'; omega
    · rw [if_neg e] at hj; rw [upR_ne R r' e] at hq
      by_cases e' : j' = id
      · subst e'; rw [upR_same] at hq'; cases hq'
        rcases hrk' k1 o' hb' with ⟨o2, ho⟩ | hge
        · exact (e (h.inj j j' c b0 q r k1 o o2 hj hid hd (live_dead hlive0) hq hr hb ho)).elim
        · have := h.lt hj hd hq hb; omega
      · rw [if_neg e'] at hj'; rw [upR_ne R r' e'] at hq'
        exact h.inj j j' c c' q q' k1 o o' hj hj' hd hd' hq hq' hb hb'
  · intro j c q k1 o hj hd hq hb hF
    rw [hget_hset] at hj
    by_cases e : j = id
    · subst e; rw [upR_same] at hq; cases hq
      rcases hrk' k1 o hb with ⟨o', ho⟩ | hge
      · exact h.off j b0 r k1 o' hid (live_dead hlive0) hr ho hF
      · have := h.flt _ hF; omega
    · rw [if_neg e] at hj; rw [upR_ne R r' e] at hq
      exact h.off j c q k1 o hj hd hq hb hF

end Go.Ev

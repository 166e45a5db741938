/-
  How the evaluator's values and blocks stand to the model's values and memory, and what keeps that relation.
-/
import Derived.Test.YtcnipahcheooiaaE1
import Derived.WalkKit
import Derived.Laws.CopyRow
namespace Go.Ev
open Go
set_option linter.unusedSectionVars false
set_option linter.unusedSimpArgs false
set_option linter.unusedVariables false

/-- Where a block of the call's own lies: is it a variable? in which block of memory, from which cell on; cells a row; rows. -/
structure RB where
  box : Bool
  blk : Option (Nat × Nat)
  sz : Nat
  cl : Nat

abbrev Refs := Nat → Option RB
def noRefs : Refs := fun _ => none

def cellAt (w : World) (k o : Nat) : Option Value :=
  match w.heap[k]? with
  | some (.cells c _ _) => c[o]?
  | _ => none

theorem cell?_eq (w : World) (k o : Nat) : w.cell? ⟨k, o, none⟩ = cellAt w k o := by
  unfold World.cell? cellAt
  cases w.heap[k]? with
  | none => rfl
  | some b => cases b <;> simp

inductive Rep (w : World) (X : Nat → Prop) : Refs → PV → Value → Prop where
  | any (R v) : Rep w X R .any v
  | undef (R) : Rep w X R .undef Go.undef
  | bool (R b) : Rep w X R (.bool b) (.bool b)
  | int (R k n) : Rep w X R (.int k n) (.int k n)
  | str (R s) : Rep w X R (.str s) (.string ⟨s.toArray⟩)
  | nilp (R) : Rep w X R .nilp (.pointer none)
  | nilf (R) : Rep w X R .nilf .nilFunc
  | nili (R) : Rep w X R .nili .nilIface
  | nul (R a) : Rep w X R .nul (.slice a 0 0)
  | rptr (R k o cells) (vs : Nat → Value) (hk : ¬ X k) (hs : k < w.heap.size)
      (hc : ∀ (i : Nat) (pv : PV), cells[i]? = some pv → cellAt w k (o + i) = some (vs i) ∧ (vs i).oneCell' = true)
      (hr : ∀ (i : Nat) (pv : PV), cells[i]? = some pv → Rep w X noRefs pv (vs i)) : Rep w X R (.rptr cells) (.pointer (some ⟨k, o, none⟩))
  | ro0 (R a c) : Rep w X R (.ro []) (.slice a 0 c)
  | ro (R k o sz rows c) (vs : Nat → Nat → Value) (hk : ¬ X k) (hs : k < w.heap.size) (hl : rows.length ≤ c)
      (hz : ∀ (i : Nat) (row : List PV), rows[i]? = some row → row.length = sz)
      (hc : ∀ (i : Nat) (row : List PV) (j : Nat) (pv : PV), rows[i]? = some row → row[j]? = some pv → cellAt w k (o + i * sz + j) = some (vs i j) ∧ (vs i j).oneCell' = true)
      (hr : ∀ (i : Nat) (row : List PV) (j : Nat) (pv : PV), rows[i]? = some row → row[j]? = some pv → Rep w X noRefs pv (vs i j)) :
      Rep w X R (.ro rows) (.slice (some ⟨k, o, none⟩) rows.length c)
  | ptr (R : Refs) (id b k base j) (h : R id = some b) (hb : b.box = true) (hk : b.blk = some (k, base)) :
      Rep w X R (.ptr id j) (.pointer (some ⟨k, base + j, none⟩))
  | eptr (R : Refs) (id b k base i j cl) (h : R id = some b) (hb : b.box = false) (hl : b.cl = cl) (hk : b.blk = some (k, base)) :
      Rep w X R (.eptr id i j cl) (.pointer (some ⟨k, base + i * b.sz + j, none⟩))
  | eptrS (R : Refs) (id b i j cl) (v : Value) (h : R id = some b) (hb : b.box = false) (hl : cl < b.cl) (h1 : v.oneCell' = true) : Rep w X R (.eptr id i j cl) v
  | own (R : Refs) (id b k base off len cl c) (cs : Array Value) (et : TypeId) (fr : Nat × Nat) (h : R id = some b) (hb : b.box = false) (hl : b.cl = cl) (hk : b.blk = some (k, base))
      (h1 : off + len ≤ cl) (h2 : len ≤ c) (h3 : cl ≤ off + c) (hw : w.heap[k]? = some (.cells cs et fr)) (h4 : base + (off + c) * b.sz ≤ cs.size) :
      Rep w X R (.own id off len cl) (.slice (some ⟨k, base + off * b.sz, none⟩) len c)
  | ownZ (R : Refs) (id b a cl) (h : R id = some b) (hb : b.box = false) (hl : b.cl = cl) : Rep w X R (.own id cl 0 cl) (.slice a 0 0)
  | ownS (R : Refs) (id b off len cl) (v : Value) (h : R id = some b) (hb : b.box = false) (hl : cl < b.cl) (h1 : v.oneCell' = true) : Rep w X R (.own id off len cl) v
  | func (R f caps) (arr : Array Value) (hl : arr.size = caps.length) (h1 : ∀ (i : Nat) (v : Value), arr[i]? = some v → v.oneCell' = true)
      (h : ∀ (i : Nat) (pv : PV) (v : Value), caps[i]? = some pv → arr[i]? = some v → Rep w X R pv v) : Rep w X R (.func f caps) (.func (.func f) #[] arr)
  | iface (R t pv v) (h : Rep w X R pv v) : Rep w X R (.iface t pv) (.iface t v)
  | agg (R cells) (arr : Array Value) (hl : arr.size = cells.length) (h1 : ∀ (i : Nat) (v : Value), arr[i]? = some v → v.oneCell' = true)
      (h : ∀ (i : Nat) (pv : PV) (v : Value), cells[i]? = some pv → arr[i]? = some v → Rep w X R pv v) : Rep w X R (.agg cells) (.agg arr)
  | tuple (R vs) (arr : Array Value) (hl : arr.size = vs.length)
      (h : ∀ (i : Nat) (pv : PV) (v : Value), vs[i]? = some pv → arr[i]? = some v → Rep w X R pv v) : Rep w X R (.tuple vs) (.tuple arr)

/-- What may come about in memory of which just some blocks are written. -/
structure Grow (w : World) (X : Nat → Prop) (w' : World) : Prop where
  size : w.heap.size ≤ w'.heap.size
  same : ∀ k, k < w.heap.size → ¬ X k → w'.heap[k]? = w.heap[k]?
  shape : ∀ (k : Nat) (cs : Array Value) (et : TypeId) (fr : Nat × Nat), w.heap[k]? = some (.cells cs et fr) → ∃ cs' : Array Value, w'.heap[k]? = some (.cells cs' et fr) ∧ cs'.size = cs.size
  os : w'.os = w.os
  tape : w'.tape = w.tape
  output : w'.output = w.output
  froz : ∀ a, w'.frozen? a = w.frozen? a

theorem Grow.refl (w : World) (X : Nat → Prop) : Grow w X w :=
  ⟨Nat.le_refl _, fun _ _ _ => rfl, fun _ cs _ _ h => ⟨cs, h, rfl⟩, rfl, rfl, rfl, fun _ => rfl⟩

theorem Grow.trans {w w' w'' : World} {X X' : Nat → Prop} (h : Grow w X w') (h' : Grow w' X' w'')
    (hx : ∀ k, k < w.heap.size → ¬ X k → ¬ X' k) : Grow w X w'' :=
  ⟨Nat.le_trans h.size h'.size,
   fun k hk hn => (h'.same k (Nat.lt_of_lt_of_le hk h.size) (hx k hk hn)).trans (h.same k hk hn),
   fun k cs et fr hc => by
     obtain ⟨c1, h1, s1⟩ := h.shape k cs et fr hc
     obtain ⟨c2, h2, s2⟩ := h'.shape k c1 et fr h1
     exact ⟨c2, h2, s2.trans s1⟩,
   h'.os.trans h.os, h'.tape.trans h.tape, h'.output.trans h.output, fun a => (h'.froz a).trans (h.froz a)⟩

theorem Grow.mono {w w' : World} {X X' : Nat → Prop} (h : Grow w X w') (hx : ∀ k, X k → X' k) : Grow w X' w' :=
  ⟨h.size, fun k hk hn => h.same k hk fun hX => hn (hx k hX), h.shape, h.os, h.tape, h.output, h.froz⟩

/-- Blocks stay where they are, but those that grew. -/
def RExt (R R' : Refs) : Prop :=
  ∀ id r, R id = some r → ∃ r', R' id = some r' ∧ (r' = r ∨ (r.box = false ∧ r'.box = false ∧ r.cl < r'.cl))

theorem RExt.refl (R : Refs) : RExt R R := fun _ r h => ⟨r, h, .inl rfl⟩
theorem RExt.no (R : Refs) : RExt noRefs R := fun _ _ h => by cases h
theorem RExt.trans {R R' R'' : Refs} (h : RExt R R') (h' : RExt R' R'') : RExt R R'' := by
  intro id r hr
  obtain ⟨r1, h1, e1⟩ := h id r hr
  obtain ⟨r2, h2, e2⟩ := h' id r1 h1
  refine ⟨r2, h2, ?_⟩
  rcases e1 with rfl | ⟨b1, b1', l1⟩
  · exact e2
  · rcases e2 with rfl | ⟨_, b2', l2⟩
    · exact .inr ⟨b1, b1', l1⟩
    · exact .inr ⟨b1, b2', Nat.lt_trans l1 l2⟩

theorem cellAt_same {w w' : World} {k o : Nat} (h : w'.heap[k]? = w.heap[k]?) : cellAt w' k o = cellAt w k o := by
  unfold cellAt; rw [h]

theorem Rep.mono {w w' : World} {X X' : Nat → Prop} (hG : Grow w X w') (hX : ∀ k, k < w.heap.size → ¬ X k → ¬ X' k)
    {R : Refs} {pv : PV} {v : Value} (h : Rep w X R pv v) : ∀ {R' : Refs}, RExt R R' → Rep w' X' R' pv v := by
  induction h with
  | any R v => intro R' _; exact .any R' v
  | undef R => intro R' _; exact .undef R'
  | bool R b => intro R' _; exact .bool R' b
  | int R k n => intro R' _; exact .int R' k n
  | str R s => intro R' _; exact .str R' s
  | nilp R => intro R' _; exact .nilp R'
  | nilf R => intro R' _; exact .nilf R'
  | nili R => intro R' _; exact .nili R'
  | nul R a => intro R' _; exact .nul R' a
  | rptr R k o cells vs hk hs hc hr ih =>
    intro R' _
    exact .rptr R' k o cells vs (hX k hs hk) (Nat.lt_of_lt_of_le hs hG.size)
      (fun i pv hi => ⟨(cellAt_same (hG.same k hs hk)).trans (hc i pv hi).1, (hc i pv hi).2⟩) (fun i pv hi => ih i pv hi (RExt.no _))
  | ro0 R a c => intro R' _; exact .ro0 R' a c
  | ro R k o sz rows c vs hk hs hl hz hc hr ih =>
    intro R' _
    exact .ro R' k o sz rows c vs (hX k hs hk) (Nat.lt_of_lt_of_le hs hG.size) hl hz
      (fun i row j pv hi hj => ⟨(cellAt_same (hG.same k hs hk)).trans (hc i row j pv hi hj).1, (hc i row j pv hi hj).2⟩)
      (fun i row j pv hi hj => ih i row j pv hi hj (RExt.no _))
  | ptr R id b k base j h hb hk =>
    intro R' hR
    obtain ⟨r', h', e⟩ := hR id b h
    rcases e with rfl | ⟨b1, _, _⟩
    · exact .ptr R' id r' k base j h' hb hk
    · rw [hb] at b1; cases b1
  | eptr R id b k base i j cl h hb hl hk =>
    intro R' hR
    obtain ⟨r', h', e⟩ := hR id b h
    rcases e with rfl | ⟨_, b2, l⟩
    · exact .eptr R' id r' k base i j cl h' hb hl hk
    · exact .eptrS R' id r' i j cl _ h' b2 (by omega) rfl
  | eptrS R id b i j cl v h hb hl h1 =>
    intro R' hR
    obtain ⟨r', h', e⟩ := hR id b h
    rcases e with rfl | ⟨_, b2, l⟩
    · exact .eptrS R' id r' i j cl v h' hb hl h1
    · exact .eptrS R' id r' i j cl v h' b2 (by omega) h1
  | own R id b k base off len cl c cs et fr h hb hl hk h1 h2 h3 hw h4 =>
    intro R' hR
    obtain ⟨r', h', e⟩ := hR id b h
    rcases e with rfl | ⟨_, b2, l⟩
    · obtain ⟨cs', hw', hs'⟩ := hG.shape k cs et fr hw
      exact .own R' id r' k base off len cl c cs' et fr h' hb hl hk h1 h2 h3 hw' (by omega)
    · exact .ownS R' id r' off len cl _ h' b2 (by omega) rfl
  | ownZ R id b a cl h hb hl =>
    intro R' hR
    obtain ⟨r', h', e⟩ := hR id b h
    rcases e with rfl | ⟨_, b2, l⟩
    · exact .ownZ R' id r' a cl h' hb hl
    · exact .ownS R' id r' _ _ cl _ h' b2 (by omega) rfl
  | ownS R id b off len cl v h hb hl h1 =>
    intro R' hR
    obtain ⟨r', h', e⟩ := hR id b h
    rcases e with rfl | ⟨_, b2, l⟩
    · exact .ownS R' id r' off len cl v h' hb hl h1
    · exact .ownS R' id r' off len cl v h' b2 (by omega) h1
  | func R f caps arr hl h1 h ih => intro R' hR; exact .func R' f caps arr hl h1 fun i pv v hi hv => ih i pv v hi hv hR
  | iface R t pv v h ih => intro R' hR; exact .iface R' t pv v (ih hR)
  | agg R cells arr hl h1 h ih => intro R' hR; exact .agg R' cells arr hl h1 fun i pv v hi hv => ih i pv v hi hv hR
  | tuple R vs arr hl h ih => intro R' hR; exact .tuple R' vs arr hl fun i pv v hi hv => ih i pv v hi hv hR

theorem Rep.up {w : World} {X : Nat → Prop} {R : Refs} {pv : PV} {v : Value} (h : Rep w X noRefs pv v) : Rep w X R pv v :=
  h.mono (Grow.refl w X) (fun _ _ h => h) (RExt.no R)

theorem Rep.oneCell {w : World} {X : Nat → Prop} {R : Refs} {pv : PV} {v : Value} (h : Rep w X R pv v) (hc : cellV pv = true) : v.oneCell' = true := by
  cases h <;> first | rfl | (simp [cellV] at hc; done) | assumption

end Go.Ev

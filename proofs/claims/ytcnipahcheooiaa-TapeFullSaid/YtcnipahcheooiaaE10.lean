/-
  Values made plain: what is shown to others is written no more.
-/
import Derived.Test.YtcnipahcheooiaaE9
namespace Go.Ev
open Go
set_option linter.unusedSectionVars false
set_option linter.unusedSimpArgs false
set_option linter.unusedVariables false
variable [Frame]

section
variable {w : World} {R : Refs} {H : Heap}

theorem nbeq_iff {a b : Nat} : Nat.beq a b = true ↔ a = b := ⟨Nat.eq_of_beq_eq_true, fun h => by subst h; exact Nat.beq_refl _⟩
theorem nbeq_false {a b : Nat} (h : Nat.beq a b = false) : a ≠ b := fun e => by subst e; simp at h

theorem memN_iff {i : Nat} : ∀ {l : List Nat}, memN i l = true ↔ i ∈ l
  | [] => by simp [memN]
  | k :: r => by
    simp only [memN]
    cases hb : Nat.beq k i with
    | true => have := nbeq_iff.1 hb; subst this; simp
    | false => have := nbeq_false hb; rw [memN_iff (l := r)]; simp; intro e; exact absurd e.symm this
theorem memN_false {i : Nat} {l : List Nat} (h : memN i l = false) : i ∉ l := fun hm => by rw [memN_iff.2 hm] at h; cases h
theorem apartN_spec : ∀ {a b : List Nat}, apartN a b = true → ∀ i ∈ a, i ∉ b
  | [], _, _, i, hi => by cases hi
  | k :: r, b, h, i, hi => by
    simp only [apartN] at h
    split at h <;> first | (cases h; done) | skip
    rename_i hm
    cases hi with
    | head => exact memN_false hm
    | tail _ hi => exact apartN_spec h i hi
theorem nodupN_spec : ∀ {a : List Nat}, nodupN a = true → a.Nodup
  | [], _ => List.nodup_nil
  | k :: r, h => by
    simp only [nodupN] at h
    split at h <;> first | (cases h; done) | skip
    rename_i hm
    exact List.nodup_cons.2 ⟨memN_false hm, nodupN_spec h⟩

/-- Blocks that are written no more. -/
theorem HRel.freeze (h : HRel w R H) {id sz : Nat} {rows : List (List PV)} (hid : hget H id = some (.arr sz rows)) :
    HRel w R (hset H id (.froz sz rows)) ∧ (∀ k, Xof (hset H id (.froz sz rows)) R k → Xof H R k) := by
  have hsub : ∀ k, Xof (hset H id (.froz sz rows)) R k → Xof H R k := by
    rintro k (hF | ⟨i, b, r, o, hi, hl, hr, hk⟩)
    · exact .inl hF
    rw [hget_hset] at hi
    by_cases e : i = id
    · rw [if_pos e] at hi; cases hi; cases hl
    · rw [if_neg e] at hi; exact .inr ⟨i, b, r, o, hi, hl, hr, hk⟩
  refine ⟨h.change (Grow.refl w _) (RExt.refl R) (fun k _ hn hX => hn (hsub k hX)) ?_ ?_ ?_ ?_, hsub⟩
  · intro i hi
    rw [hget_hset] at hi
    by_cases e : i = id
    · rw [if_pos e] at hi; cases hi
    · rw [if_neg e] at hi; exact h.dom i hi
  · intro i b hi
    rw [hget_hset] at hi
    by_cases e : i = id
    · rw [if_pos e] at hi; cases hi; subst e
      obtain ⟨r, h1, h2⟩ := h.has _ _ hid
      exact .inr ⟨r, h1, BRel.mono (b := .froz sz rows) (Grow.refl w _) (fun k _ hn hX => hn (hsub k hX)) (RExt.refl R) (fun _ _ _ => rfl) (show BRel w _ R r (.froz sz rows) from h2)⟩
    · rw [if_neg e] at hi; exact .inl ⟨hi, rfl, .inr fun _ _ _ _ _ => rfl⟩
  · intro i i' b b' r r' k o o' hi hi' hd hd' hr hr' hk hk'
    rw [hget_hset] at hi hi'
    by_cases e : i = id <;> by_cases e' : i' = id
    · rw [e, e']
    · rw [if_neg e'] at hi'; subst e
      exact h.inj i i' (.arr sz rows) b' r r' k o o' hid hi' rfl hd' hr hr' hk hk'
    · rw [if_neg e] at hi; subst e'
      exact h.inj i i' b (.arr sz rows) r r' k o o' hi hid hd rfl hr hr' hk hk'
    · rw [if_neg e] at hi; rw [if_neg e'] at hi'
      exact h.inj i i' b b' r r' k o o' hi hi' hd hd' hr hr' hk hk'
  · intro i b r k o hi hd hr hk hF
    rw [hget_hset] at hi
    by_cases e : i = id
    · subst e; exact h.off i (.arr sz rows) r k o hid rfl hr hk hF
    · rw [if_neg e] at hi; exact h.off i b r k o hi hd hr hk hF

/-- Is a block written no more? -/
def Frozen (H : Heap) (id : Nat) : Prop := ∃ sz rows, hget H id = some (.froz sz rows)

theorem frees_keys : ∀ {ids : List Nat} {u : List (Nat × Blk)}, frees H ids = some u → ∀ p ∈ u, ∃ sz rows, p.2 = .froz sz rows ∧ hget H p.1 = some (.arr sz rows)
  | [], u, h, p, hp => by simp [frees] at h; subst h; cases hp
  | i :: r, u, h, p, hp => by
    simp only [frees] at h
    split at h <;> first | (cases h; done) | skip
    · rename_i sz rows u' hi hr
      cases h
      cases hp with
      | head => exact ⟨sz, rows, rfl, hi⟩
      | tail _ hp => exact frees_keys hr p hp
    · rename_i sz rows u' hi hr
      cases h
      exact frees_keys hr p hp

theorem frees_all : ∀ {ids : List Nat} {u : List (Nat × Blk)}, frees H ids = some u → ∀ i ∈ ids, ∃ sz rows, (hget H i = some (.arr sz rows) ∧ (i, Blk.froz sz rows) ∈ u) ∨ hget H i = some (.froz sz rows)
  | [], u, h, i, hi => by cases hi
  | j :: r, u, h, i, hi => by
    simp only [frees] at h
    split at h <;> first | (cases h; done) | skip
    · rename_i sz rows u' hj hr
      cases h
      cases hi with
      | head => exact ⟨sz, rows, .inl ⟨hj, .head _⟩⟩
      | tail _ hi =>
        obtain ⟨sz', rows', h1 | h1⟩ := frees_all hr i hi
        · exact ⟨sz', rows', .inl ⟨h1.1, .tail _ h1.2⟩⟩
        · exact ⟨sz', rows', .inr h1⟩
    · rename_i sz rows u' hj hr
      cases h
      cases hi with
      | head => exact ⟨sz, rows, .inr hj⟩
      | tail _ hi => exact frees_all hr i hi

/-- Some blocks frozen, in a heap in which each is an array of these rows. -/
theorem HRel.freezeAll : ∀ {u : List (Nat × Blk)} {H : Heap}, HRel w R H → (∀ p ∈ u, ∃ sz rows, p.2 = .froz sz rows ∧ (hget H p.1 = some (.arr sz rows) ∨ hget H p.1 = some (.froz sz rows))) →
    HRel w R (hsets u H) ∧ (∀ k, Xof (hsets u H) R k → Xof H R k) ∧ (∀ p ∈ u, hget (hsets u H) p.1 = some p.2) ∧ (∀ i, (∀ p ∈ u, p.1 ≠ i) → hget (hsets u H) i = hget H i) ∧
      (∀ i sz rows, hget H i = some (.froz sz rows) → hget (hsets u H) i = some (.froz sz rows))
  | [], H, h, _ => ⟨h, fun _ hk => hk, fun p hp => (by cases hp), fun _ _ => rfl, fun _ _ _ h => h⟩
  | (i, b) :: u, H, h, hu => by
    obtain ⟨sz, rows, e1, e2⟩ := hu (i, b) (.head _)
    simp only at e1 e2
    subst e1
    have step : HRel w R (hset H i (.froz sz rows)) ∧ (∀ k, Xof (hset H i (.froz sz rows)) R k → Xof H R k) := by
      rcases e2 with e2 | e2
      · exact h.freeze e2
      · have hsame : ∀ j, hget (hset H i (.froz sz rows)) j = hget H j := by
          intro j; rw [hget_hset]; split
          · subst_vars; exact e2.symm
          · rfl
        have hX : ∀ k, Xof (hset H i (.froz sz rows)) R k ↔ Xof H R k := by
          intro k
          constructor
          · rintro (hF | ⟨j, b, r, o, hj, rest⟩)
            · exact .inl hF
            · rw [hsame] at hj; exact .inr ⟨j, b, r, o, hj, rest⟩
          · rintro (hF | ⟨j, b, r, o, hj, rest⟩)
            · exact .inl hF
            · exact .inr ⟨j, b, r, o, by rw [hsame]; exact hj, rest⟩
        refine ⟨⟨h.flt, fun j b r k o hj => h.off j b r k o (by rw [hsame] at hj; exact hj), fun j hj => h.dom j (by rw [hsame] at hj; exact hj), fun j b hj => ?_, fun j j' b b' r r' k o o' hj hj' => ?_⟩, fun k hk => (hX k).1 hk⟩
        · rw [hsame] at hj
          obtain ⟨r, h1, h2⟩ := h.has j b hj
          exact ⟨r, h1, h2.mono (Grow.refl w _) (fun k _ hn hx => hn ((hX k).1 hx)) (RExt.refl R) (fun _ _ _ => rfl)⟩
        · rw [hsame] at hj hj'; exact h.inj j j' b b' r r' k o o' hj hj'
    have hu' : ∀ p ∈ u, ∃ sz' rows', p.2 = .froz sz' rows' ∧ (hget (hset H i (.froz sz rows)) p.1 = some (.arr sz' rows') ∨ hget (hset H i (.froz sz rows)) p.1 = some (.froz sz' rows')) := by
      intro p hp
      obtain ⟨sz', rows', f1, f2⟩ := hu p (.tail _ hp)
      refine ⟨sz', rows', f1, ?_⟩
      rw [hget_hset]
      by_cases e : p.1 = i
      · rw [if_pos e]; right
        rw [e] at f2
        rcases e2 with e2 | e2 <;> rcases f2 with f2 | f2 <;> rw [e2] at f2 <;> cases f2 <;> rfl
      · rw [if_neg e]; exact f2
    obtain ⟨a1, a2, a3, a4, a5⟩ := HRel.freezeAll step.1 hu'
    refine ⟨a1, fun k hk => step.2 k (a2 k hk), fun p hp => ?_, fun j hj => ?_, fun j sz' rows' hj => ?_⟩
    · cases hp with
      | head =>
        simp only [hsets]
        exact a5 i sz rows (by rw [hget_hset, if_pos rfl])
      | tail _ hp => exact a3 p hp
    · simp only [hsets]
      rw [a4 j (fun p hp => hj p (.tail _ hp)), hget_hset, if_neg (fun e => hj (i, _) (.head _) e.symm)]
    · simp only [hsets]
      refine a5 j sz' rows' ?_
      rw [hget_hset]
      split
      · subst_vars
        rcases e2 with e2 | e2 <;> rw [e2] at hj <;> cases hj
        rfl
      · exact hj

/-- What has no refs has none wherever it stands. -/
theorem Rep.pure {X : Nat → Prop} {pv : PV} {v : Value} (h : Rep w X R pv v)
    (hp : match pv with | .ptr _ _ | .eptr _ _ _ _ | .own _ _ _ _ | .func _ _ | .iface _ _ | .agg _ | .tuple _ => False | _ => True) : Rep w X noRefs pv v := by
  cases h with
  | any _ v => exact .any _ v
  | undef => exact .undef _
  | bool _ b => exact .bool _ b
  | int _ k n => exact .int _ k n
  | str _ s => exact .str _ s
  | nilp => exact .nilp _
  | nilf => exact .nilf _
  | nili => exact .nili _
  | nul _ ad => exact .nul _ ad
  | rptr _ k o cells vs hk hs hc hr => exact .rptr _ k o cells vs hk hs hc hr
  | ro0 _ ad c => exact .ro0 _ ad c
  | ro _ k o sz rows c vs hk hs hl hz hc hr => exact .ro _ k o sz rows c vs hk hs hl hz hc hr
  | ptr => exact hp.elim
  | eptr => exact hp.elim
  | eptrS => exact hp.elim
  | own => exact hp.elim
  | ownZ => exact hp.elim
  | ownS => exact hp.elim
  | func => exact hp.elim
  | iface => exact hp.elim
  | agg => exact hp.elim
  | tuple => exact hp.elim

/-- A view of rows that lie in memory which is written no more. -/
theorem ro_view {X : Nat → Prop} {k base sz off len c : Nat} {cs : Array Value} {et : TypeId} {fr : Nat × Nat} {rows : List (List PV)} (hk : ¬ X k) (hw : w.heap[k]? = some (.cells cs et fr))
    (hr : RowsAt w X cs base sz rows) (h1 : off + len ≤ rows.length) (h2 : len ≤ c) :
    Rep w X noRefs (.ro ((rows.drop off).take len)) (.slice (some ⟨k, base + off * sz, none⟩) len c) := by
  have hlen : ((rows.drop off).take len).length = len := by simp; omega
  have hget : ∀ (i : Nat) (row : List PV), ((rows.drop off).take len)[i]? = some row → rows[off + i]? = some row := by
    intro i row hi
    rw [List.getElem?_take] at hi
    split at hi
    · simpa using hi
    · cases hi
  have hcell : ∀ (i : Nat) (row : List PV) (j : Nat) (pv : PV), ((rows.drop off).take len)[i]? = some row → row[j]? = some pv →
      ∃ v, cs[base + off * sz + i * sz + j]? = some v ∧ v.oneCell' = true ∧ Rep w X noRefs pv v := by
    intro i row j pv hi hj
    have := hr.2 (off + i) row j pv (hget i row hi) hj
    rwa [show base + (off + i) * sz + j = base + off * sz + i * sz + j by rw [Nat.add_mul]; omega] at this
  have := Rep.ro (w := w) (X := X) noRefs k (base + off * sz) sz ((rows.drop off).take len) c (fun i j => cs.getD (base + off * sz + i * sz + j) undef) hk
    ((Array.getElem?_eq_some_iff.1 hw).1) (by rw [hlen]; exact h2) (fun i row hi => hr.1 _ row (hget i row hi))
    (fun i row j pv hi hj => by
      obtain ⟨v, a1, a2, a3⟩ := hcell i row j pv hi hj
      have : cs.getD (base + off * sz + i * sz + j) undef = v := by simp [Array.getD_eq_getD_getElem?, a1]
      rw [this]
      exact ⟨by simp [cellAt, hw, a1], a2⟩)
    (fun i row j pv hi hj => by
      obtain ⟨v, a1, a2, a3⟩ := hcell i row j pv hi hj
      have : cs.getD (base + off * sz + i * sz + j) undef = v := by simp [Array.getD_eq_getD_getElem?, a1]
      rw [this]; exact a3)
  rwa [hlen] at this

/-- What a heap is to be for values that were made plain: the blocks shown lie where nobody writes. -/
structure Shown (w : World) (R : Refs) (H : Heap) (X' : Nat → Prop) (ids : List Nat) : Prop where
  sub : ∀ k, X' k → Xof H R k ∨ w.heap.size ≤ k
  off : ∀ i ∈ ids, ∀ r k o, R i = some r → r.blk = some (k, o) → ¬ X' k

theorem Shown.mono {X' : Nat → Prop} {ids ids' : List Nat} (h : Shown w R H X' ids) (hs : ∀ i ∈ ids', i ∈ ids) : Shown w R H X' ids' :=
  ⟨h.sub, fun i hi => h.off i (hs i hi)⟩

theorem Rep.shown {X' : Nat → Prop} {ids : List Nat} (hS : Shown w R H X' ids) {R0 : Refs} {pv : PV} {v : Value} (h : Rep w (Xof H R) R0 pv v) : Rep w X' R0 pv v :=
  h.mono (Grow.refl w _) (fun k hk hn hX => by rcases hS.sub k hX with h | h; exact hn h; omega) (RExt.refl _)

theorem clo1_rep (hH : HRel w R H) {X' : Nat → Prop} {p q : PV} {ids : List Nat} (hc : clo1 H p = some (q, ids)) (hS : Shown w R H X' ids) {v : Value}
    (h : Rep w (Xof H R) R p v) : Rep w X' noRefs q v := by
  unfold clo1 at hc
  split at hc <;> first | (cases hc; done) | skip
  · cases hc; cases h; exact .ro0 _ _ _
  · rename_i id off len cl
    have key : ∀ (z : Nat) (rows : List (List PV)), (hget H id = some (.arr z rows) ∨ hget H id = some (.froz z rows)) →
        (match Nat.beq rows.length cl with | true => some (PV.ro ((rows.drop off).take len), [id]) | false => none) = some (q, ids) → Rep w X' noRefs q v := by
      intro z rows hg hc
      split at hc <;> cases hc
      rename_i hb
      have hvo : validO H id cl = true := by
        unfold validO
        rcases hg with hg | hg <;> rw [hg] <;> exact hb
      have hlen : rows.length = cl := nbeq_iff.1 hb
      obtain ⟨r, hr, hcl, hbx, hcase⟩ := own_real hH hvo h
      rcases hcase with ⟨k, base, c, cs, et, fr, hk, b1, b2, b3, hw, b4, rfl⟩ | ⟨rfl, rfl, ad, rfl⟩
      · have hB : ∃ cs et, w.heap[k]? = some (.cells cs et (0, 0)) ∧ RowsAt w (Xof H R) cs base r.sz rows := by
          rcases hg with hg | hg
          · obtain ⟨r', q1, _, _, _, q2 | ⟨k', base', cs, et, q2, q3, q4, q5⟩⟩ := hH.has id _ hg
            · rw [hr] at q1; cases q1; rw [hk] at q2; cases q2.1
            · rw [hr] at q1; cases q1; rw [hk] at q2; cases q2; exact ⟨cs, et, q3, q5⟩
          · obtain ⟨r', q1, _, _, _, q2 | ⟨k', base', cs, et, q2, q3, q4, q5⟩⟩ := hH.has id _ hg
            · rw [hr] at q1; cases q1; rw [hk] at q2; cases q2.1
            · rw [hr] at q1; cases q1; rw [hk] at q2; cases q2; exact ⟨cs, et, q3, q5⟩
        obtain ⟨cs', et', q3, q5⟩ := hB
        have hrows : RowsAt w X' cs' base r.sz rows := q5.mono (Grow.refl w _) (fun k hk hn hX => by rcases hS.sub k hX with h | h; exact hn h; omega)
        exact ro_view (hS.off id (.head _) r k base hr hk) q3 hrows (by omega) b2
      · have : (rows.drop off).take 0 = [] := by simp
        rw [this]
        exact .ro0 _ _ _
    split at hc
    · rename_i z rows hg; exact key z rows (.inl hg) hc
    · rename_i z rows hg; exact key z rows (.inr hg) hc
    · cases hc
  · cases hc
    refine (h.pure ?_).shown hS
    cases p <;> first | trivial | (simp_all; done) | (simp_all; rename_i hx; exact hx _ _ _ _ rfl rfl rfl rfl)

end

end Go.Ev

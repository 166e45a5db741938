/-
  Blocks that are written: 'append', 'copy', 'clear', the store to an element.
-/
import Derived.Test.YtcnipahcheooiaaE14
namespace Go.Ev
open Go
set_option linter.unusedSectionVars false
set_option linter.unusedSimpArgs false
set_option linter.unusedVariables false
variable [Frame]

section
variable {P : Program} {cx : Cx} {gs : List Nat} {w : World} {R : Refs} {H : Heap} {env : Env} {a : Act}

theorem Xof_write {id : Nat} {b0 b : Blk} {r r' : RB} (hid : hget H id = some b0) (hr : R id = some r) (hl0 : liveB b0 = true)
    (hrk' : ∀ k' o, r'.blk = some (k', o) → (∃ o', r.blk = some (k', o')) ∨ w.heap.size ≤ k') :
    ∀ k, k < w.heap.size → ¬ Xof H R k → ¬ Xof (hset H id b) (upR R id r') k := by
  rintro k1 hk hn (hF | ⟨j, c, q, o, hj, hl, hq, hb⟩)
  · exact hn (.inl hF)
  rw [hget_hset] at hj
  by_cases e : j = id
  · subst e; rw [upR_same] at hq; cases hq
    rcases hrk' k1 o hb with ⟨o', ho⟩ | hge
    · exact hn (.inr ⟨j, b0, r, o', hid, hl0, hr, ho⟩)
    · omega
  · rw [if_neg e] at hj; rw [upR_ne R r' e] at hq; exact hn (.inr ⟨j, c, q, o, hj, hl, hq, hb⟩)

/-- What a block's row is. -/
theorem arr_real (hH : HRel w R H) {id sz : Nat} {rows : List (List PV)} {r : RB} {k base : Nat} (hid : hget H id = some (.arr sz rows)) (hr : R id = some r) (hk : r.blk = some (k, base)) :
    r.box = false ∧ r.cl = rows.length ∧ r.sz = sz ∧ ∃ cs et, w.heap[k]? = some (.cells cs et (0, 0)) ∧ base + rows.length * sz ≤ cs.size ∧ RowsAt w (Xof H R) cs base sz rows := by
  obtain ⟨r', q1, b1, b2, b3, q2 | ⟨k', base', cs, et, q2, q3, q4, q5⟩⟩ := hH.has id _ hid
  · rw [hr] at q1; cases q1; rw [hk] at q2; cases q2.1
  · rw [hr] at q1; cases q1; rw [hk] at q2; cases q2
    rw [b3] at q4 q5
    exact ⟨b1, b2, b3, cs, et, q3, q4, q5⟩

/-- A block written where it lies. -/
theorem arr_write (hH : HRel w R H) {id sz : Nat} {rows rows' : List (List PV)} {r : RB} {k base : Nat} {cur cur' : Array Value} {et : TypeId}
    (hid : hget H id = some (.arr sz rows)) (hr : R id = some r) (hk : r.blk = some (k, base)) (hw : w.heap[k]? = some (.cells cur et (0, 0)))
    (hs : cur'.size = cur.size) (hl : rows.length ≤ rows'.length) (hb : base + rows'.length * sz ≤ cur.size) (hra : RowsAt w (Xof H R) cur' base sz rows') :
    HRel (w.setRow k cur') (upR R id { r with cl := rows'.length }) (hset H id (.arr sz rows')) ∧ RExt R (upR R id { r with cl := rows'.length }) ∧ Grow w (Own H R) (w.setRow k cur') ∧
      (∀ k', k' < w.heap.size → ¬ Xof H R k' → ¬ Xof (hset H id (.arr sz rows')) (upR R id { r with cl := rows'.length }) k') := by
  obtain ⟨b1, b2, b3, _⟩ := arr_real hH hid hr hk
  subst b3
  have hXk : Own H R k := Xof_live hid rfl hr hk
  have hG : Grow w (Own H R) (w.setRow k cur') := Grow.setRow hw hs hXk
  have hX := Xof_write (w := w) (H := H) (R := R) (b := .arr r.sz rows') (r' := { r with cl := rows'.length }) hid hr rfl (fun k' o h' => .inl ⟨o, h'⟩)
  have hB : BRel (w.setRow k cur') (Xof (hset H id (.arr r.sz rows')) (upR R id { r with cl := rows'.length })) (upR R id { r with cl := rows'.length }) { r with cl := rows'.length } (.arr r.sz rows') := by
    refine ⟨b1, rfl, rfl, .inr ⟨k, base, cur', et, hk, setRow_same hw, ?_, hra.mono hG.weak hX⟩⟩
    rw [hs]; exact hb
  obtain ⟨q1, q2, q3⟩ := hH.write (w' := w.setRow k cur') (b := .arr r.sz rows') (r' := { r with cl := rows'.length }) hid hr rfl hG.weak
    (fun i _ hi => setRow_other fun e => hi base (by rw [e]; exact hk)) (fun k' o h' => .inl ⟨o, h'⟩) (by
      rcases Nat.eq_or_lt_of_le hl with h | h
      · left; cases r; simp_all
      · right; exact ⟨b1, b1, by show r.cl < rows'.length; omega⟩) hB
  exact ⟨q1, q2, hG, q3⟩

/-- A block that moves on growing. -/
theorem arr_move (hH : HRel w R H) {id sz : Nat} {rows rows' : List (List PV)} {r : RB} {cur' : Array Value} {et : TypeId} {n : Nat}
    (hid : hget H id = some (.arr sz rows)) (hr : R id = some r) (hl : rows.length < rows'.length) (hb : rows'.length * sz ≤ cur'.size) (hra : RowsAt w (Xof H R) cur' 0 sz rows') :
    HRel (pushed w (.cells cur' et) n) (upR R id { r with cl := rows'.length, blk := some (w.heap.size, 0) }) (hset H id (.arr sz rows')) ∧ RExt R (upR R id { r with cl := rows'.length, blk := some (w.heap.size, 0) }) ∧
      Grow w (Own H R) (pushed w (.cells cur' et) n) ∧
      (∀ k', k' < w.heap.size → ¬ Xof H R k' → ¬ Xof (hset H id (.arr sz rows')) (upR R id { r with cl := rows'.length, blk := some (w.heap.size, 0) }) k') := by
  obtain ⟨r', q1, b1, b2, b3, _⟩ := hH.has id _ hid
  rw [hr] at q1; cases q1
  subst b3
  have hG : Grow w (Own H R) (pushed w (.cells cur' et) n) := Grow.pushed _ _ rfl
  have hrk : ∀ k' o, (some (w.heap.size, 0) : Option (Nat × Nat)) = some (k', o) → (∃ o', r.blk = some (k', o')) ∨ w.heap.size ≤ k' := fun k' o h' => by cases h'; exact .inr (Nat.le_refl _)
  have hX := Xof_write (w := w) (H := H) (R := R) (b := .arr r.sz rows') (r' := { r with cl := rows'.length, blk := some (w.heap.size, 0) }) hid hr rfl hrk
  have hB : BRel (pushed w (.cells cur' et) n) (Xof (hset H id (.arr r.sz rows')) (upR R id { r with cl := rows'.length, blk := some (w.heap.size, 0) })) (upR R id { r with cl := rows'.length, blk := some (w.heap.size, 0) })
      { r with cl := rows'.length, blk := some (w.heap.size, 0) } (.arr r.sz rows') := by
    refine ⟨b1, rfl, rfl, .inr ⟨w.heap.size, 0, cur', et, rfl, pushed_new, ?_, hra.mono hG.weak hX⟩⟩
    show 0 + rows'.length * r.sz ≤ _
    omega
  obtain ⟨q1, q2, q3⟩ := hH.write (w' := pushed w (.cells cur' et) n) (b := .arr r.sz rows') (r' := { r with cl := rows'.length, blk := some (w.heap.size, 0) }) hid hr rfl hG.weak
    (fun i hi _ => pushed_old hi) hrk (.inr ⟨b1, b1, by show r.cl < rows'.length; omega⟩) hB
  exact ⟨q1, q2, hG, q3⟩

/-- Some rows overwritten, or more rows behind the others. -/
theorem putRow_rows {X : Nat → Prop} {cur new : Array Value} {base sz p : Nat} {rows rs : List (List PV)} (h : RowsAt w X cur base sz rows) (hn : RowsAt w X new 0 sz rs) (hsz : new.size = rs.length * sz)
    (hp : p ≤ rows.length) (hb : base + (p + rs.length) * sz ≤ cur.size) :
    RowsAt w X (putRow cur (base + p * sz) new.toList) base sz (rows.take p ++ rs ++ rows.drop (p + rs.length)) := by
  have hfit : base + p * sz + new.toList.length ≤ cur.size := by
    rw [Nat.add_mul] at hb
    simp; omega
  have hget : ∀ (i : Nat) (row : List PV), (rows.take p ++ rs ++ rows.drop (p + rs.length))[i]? = some row →
      ((¬ (p ≤ i ∧ i < p + rs.length)) ∧ rows[i]? = some row) ∨ (p ≤ i ∧ i < p + rs.length ∧ rs[i - p]? = some row) := by
    intro i row hi
    rw [List.append_assoc, List.getElem?_append] at hi
    have ht : (rows.take p).length = p := by simp; omega
    rw [ht] at hi
    split at hi
    · rename_i hlt
      rw [List.getElem?_take, if_pos hlt] at hi
      exact .inl ⟨by omega, hi⟩
    · rw [List.getElem?_append] at hi
      split at hi
      · exact .inr ⟨by omega, by omega, hi⟩
      · rw [List.getElem?_drop] at hi
        rw [show p + rs.length + (i - p - rs.length) = i by omega] at hi
        exact .inl ⟨by omega, hi⟩
  refine ⟨fun i row hi => ?_, fun i row j pv hi hj => ?_⟩
  · rcases hget i row hi with ⟨_, h1⟩ | ⟨_, _, h1⟩
    · exact h.1 i row h1
    · exact hn.1 _ row h1
  · have hnew := putRow_get hfit (base + i * sz + j)
    rw [hnew]
    simp only [Array.length_toList, hsz]
    rcases hget i row hi with ⟨hni, h1⟩ | ⟨h2, h3, h1⟩
    · have hjl : j < sz := by rw [← h.1 i row h1]; exact (List.getElem?_eq_some_iff.1 hj).1
      obtain ⟨u, u1, u2, u3⟩ := h.2 i row j pv h1 hj
      refine ⟨u, ?_, u2, u3⟩
      rw [if_neg ?_]
      · exact u1
      · rintro ⟨c1, c2⟩
        rcases Nat.lt_or_ge i p with hlt | hge
        · have := Nat.mul_le_mul_right sz (show i + 1 ≤ p by omega)
          rw [Nat.add_mul] at this; omega
        · have := Nat.mul_le_mul_right sz (show p + rs.length ≤ i by omega)
          rw [Nat.add_mul] at this; omega
    · have hjl : j < sz := by rw [← hn.1 _ row h1]; exact (List.getElem?_eq_some_iff.1 hj).1
      obtain ⟨u, u1, u2, u3⟩ := hn.2 _ row j pv h1 hj
      refine ⟨u, ?_, u2, u3⟩
      have e1 : i * sz = p * sz + (i - p) * sz := by rw [← Nat.add_mul]; congr 1; omega
      have e2 := Nat.mul_le_mul_right sz (show (i - p) + 1 ≤ rs.length by omega)
      rw [Nat.add_mul] at e2
      rw [if_pos (by omega)]
      rw [show base + i * sz + j - (base + p * sz) = 0 + (i - p) * sz + j by omega]
      simpa using u1

theorem RowsAt.ones {X : Nat → Prop} {new : Array Value} {sz : Nat} {rs : List (List PV)} (hn : RowsAt w X new 0 sz rs) (hsz : new.size = rs.length * sz) : ∀ v ∈ new.toList, v.oneCell' = true := by
  intro v hv
  obtain ⟨q, hq, rfl⟩ := List.getElem_of_mem hv
  simp at hq
  have hs0 : 0 < sz := by
    rcases Nat.eq_zero_or_pos sz with h | h
    · subst h; omega
    · exact h
  have h1 : q / sz < rs.length := (Nat.div_lt_iff_lt_mul hs0).2 (by omega)
  have h2 : q % sz < (rs[q / sz]).length := by rw [hn.1 (q / sz) rs[q / sz] (by simp)]; exact Nat.mod_lt _ hs0
  obtain ⟨u, u1, u2, _⟩ := hn.2 (q / sz) rs[q / sz] (q % sz) (rs[q / sz])[q % sz] (by simp) (by simp)
  have h5 : q / sz * sz + q % sz = q := by rw [Nat.mul_comm]; exact Nat.div_add_mod q sz
  rw [Nat.zero_add, h5] at u1
  rw [Array.getElem?_eq_getElem hq] at u1
  cases u1
  simpa using u2

/-- Some cells at the head of a longer row. -/
theorem RowsAt.head {X : Nat → Prop} {new rest : Array Value} {sz : Nat} {rs : List (List PV)} (hn : RowsAt w X new 0 sz rs) : RowsAt w X (new ++ rest) 0 sz rs := by
  refine ⟨hn.1, fun i row j pv hi hj => ?_⟩
  obtain ⟨u, u1, u2, u3⟩ := hn.2 i row j pv hi hj
  refine ⟨u, ?_, u2, u3⟩
  rw [Array.getElem?_append_left (Array.getElem?_eq_some_iff.1 u1).1]
  exact u1

theorem RowsAt.append {X : Nat → Prop} {old new : Array Value} {sz : Nat} {rows rs : List (List PV)} (ho : RowsAt w X old 0 sz rows) (hso : old.size = rows.length * sz) (hn : RowsAt w X new 0 sz rs) :
    RowsAt w X (old ++ new) 0 sz (rows ++ rs) := by
  refine ⟨fun i row hi => ?_, fun i row j pv hi hj => ?_⟩
  · rw [List.getElem?_append] at hi
    split at hi
    · exact ho.1 i row hi
    · exact hn.1 _ row hi
  · rw [List.getElem?_append] at hi
    split at hi
    · obtain ⟨u, u1, u2, u3⟩ := ho.2 i row j pv hi hj
      refine ⟨u, ?_, u2, u3⟩
      rw [Array.getElem?_append_left (Array.getElem?_eq_some_iff.1 u1).1]
      exact u1
    · rename_i hge
      obtain ⟨u, u1, u2, u3⟩ := hn.2 _ row j pv hi hj
      refine ⟨u, ?_, u2, u3⟩
      have e1 : i * sz = rows.length * sz + (i - rows.length) * sz := by rw [← Nat.add_mul]; congr 1; omega
      rw [Array.getElem?_append_right (by omega)]
      rw [show 0 + i * sz + j - old.size = 0 + (i - rows.length) * sz + j by omega]
      exact u1

end

end Go.Ev

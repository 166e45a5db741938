/-
  Slices that are read to be copied, and blocks that are written: what 'append', 'copy', 'clear' and the store to an element need.
-/
import Derived.Test.YtcnipahcheooiaaE13
import Derived.Laws.AppendOwn
namespace Go.Ev
open Go
set_option linter.unusedSectionVars false
set_option linter.unusedSimpArgs false
set_option linter.unusedVariables false
variable [Frame]

section
variable {P : Program} {cx : Cx} {gs : List Nat} {w : World} {R : Refs} {H : Heap} {env : Env} {a : Act}

/-- Rows that are read: how many there are, and their first cells. -/
structure Reads (P : Program) (w : World) (X : Nat → Prop) (esz : Nat) (rows : List (List PV)) (v : Value) : Prop where
  len : ∀ w' : World, (Builtin.lenOf v).run P w' = .ok rows.length w'
  first : ∀ m, m ≤ rows.length → ∃ arr : Array Value, (∀ w' : World, w'.heap = w.heap → (Builtin.firstCells esz m v).run P w' = .ok arr w') ∧ arr.size = m * esz ∧ RowsAt w X arr 0 esz (rows.take m)

theorem loadCells_zero {ad : Addr} (w : World) : (loadCells ad 0).run P w = .ok #[] w := by simp [loadCells, loadCellsFrom]

theorem reads_empty {X : Nat → Prop} {esz : Nat} {ad : Option Addr} {c : Nat} : Reads P w X esz [] (.slice ad 0 c) := by
  refine ⟨fun w' => by simp [Builtin.lenOf], fun m hm => ⟨#[], fun w' _ => ?_, ?_, fun i row h => by simp at h, fun i row j pv h => by simp at h⟩⟩
  · have hm : m = 0 := by simpa using hm
    subst hm
    cases ad <;> simp [Builtin.firstCells, loadCells_zero]
  · have hm : m = 0 := by simpa using hm
    subst hm; simp

theorem reads_rows {X : Nat → Prop} {esz : Nat} {rows : List (List PV)} {k o c : Nat} (hz : ∀ (i : Nat) (row : List PV), rows[i]? = some row → row.length = esz)
    (hc : ∀ (i : Nat) (row : List PV) (j : Nat) (pv : PV), rows[i]? = some row → row[j]? = some pv → ∃ u, cellAt w k (o + i * esz + j) = some u ∧ u.oneCell' = true ∧ Rep w X noRefs pv u) :
    Reads P w X esz rows (.slice (some ⟨k, o, none⟩) rows.length c) := by
  refine ⟨fun w' => by simp [Builtin.lenOf], fun m hm => ?_⟩
  have hcell : ∀ i, i < m → ∀ j, j < esz → ∃ row pv, rows[i]? = some row ∧ row[j]? = some pv := by
    intro i hi j hj
    have hil : i < rows.length := by omega
    have := hz i rows[i] (by simp)
    exact ⟨rows[i], (rows[i])[j], by simp, by simp⟩
  refine ⟨((List.range (m * esz)).map fun q => (cellAt w k (o + q)).getD undef).toArray, fun w' hw' => ?_, by simp, fun i row hi => ?_, fun i row j pv hi hj => ?_⟩
  · simp only [Builtin.firstCells]
    refine run_loadCells w' ⟨k, o, none⟩ (m * esz) (fun q => (cellAt w k (o + q)).getD undef) fun q hq => ?_
    have he : 0 < esz := by
      rcases Nat.eq_zero_or_pos esz with h | h
      · subst h; omega
      · exact h
    have h1 : q / esz < m := (Nat.div_lt_iff_lt_mul he).2 hq
    obtain ⟨row, pv, h2, h3⟩ := hcell (q / esz) h1 (q % esz) (Nat.mod_lt _ he)
    obtain ⟨u, h4, _, _⟩ := hc _ _ _ _ h2 h3
    have h5 : q / esz * esz + q % esz = q := by rw [Nat.mul_comm]; exact Nat.div_add_mod q esz
    rw [Nat.add_assoc, h5] at h4
    rw [add_none, cell?_eq]
    have : cellAt w' k (o + q) = cellAt w k (o + q) := by simp [cellAt, hw']
    rw [this, h4]; rfl
  · rw [List.getElem?_take] at hi
    split at hi
    · exact hz i row hi
    · cases hi
  · rw [List.getElem?_take] at hi
    split at hi
    · rename_i him
      obtain ⟨u, h4, h5, h6⟩ := hc i row j pv hi hj
      refine ⟨u, ?_, h5, h6⟩
      have hj' : j < esz := by rw [← hz i row hi]; exact (List.getElem?_eq_some_iff.1 hj).1
      have hlt : i * esz + j < m * esz := by
        have := Nat.mul_le_mul_right esz (show i + 1 ≤ m by omega)
        rw [Nat.add_mul] at this
        omega
      simp only [List.getElem?_toArray, Nat.zero_add, List.getElem?_map, List.getElem?_range hlt, Option.map_some]
      rw [← Nat.add_assoc, h4]; rfl
    · cases hi

theorem reads_str {X : Nat → Prop} {esz : Nat} {s : List UInt8} (hz : szOK esz (s.map fun b => [PV.int .u8 b.toNat]) = true) :
    Reads P w X esz (s.map fun b => [PV.int .u8 b.toNat]) (.string ⟨s.toArray⟩) := by
  refine ⟨fun w' => by simp [Builtin.lenOf]; rfl, fun m hm => ?_⟩
  have hm' : m ≤ s.length := by simpa using hm
  refine ⟨((s.take m).map fun b => Value.int .u8 b.toNat).toArray, fun w' _ => ?_, ?_, fun i row hi => ?_, fun i row j pv hi hj => ?_⟩
  · simp [Builtin.firstCells]
  · rcases Nat.eq_zero_or_pos m with h | h
    · subst h; simp
    · have := szOK_spec hz 0 [PV.int .u8 (s[0]'(by omega)).toNat] (by
        have h0 : 0 < s.length := by omega
        simp [h0])
      simp at this
      subst this
      simp; omega
  · rw [List.getElem?_take] at hi
    split at hi
    · exact szOK_spec hz i row hi
    · cases hi
  · rw [List.getElem?_take] at hi
    split at hi
    · rename_i him
      have hl := szOK_spec hz i row hi
      simp only [List.getElem?_map, Option.map_eq_some_iff] at hi
      obtain ⟨b, hb, rfl⟩ := hi
      simp at hl
      subst hl
      have hj0 : j = 0 := by
        have := (List.getElem?_eq_some_iff.1 hj).1
        simp at this; exact this
      subst hj0
      simp at hj
      subst hj
      refine ⟨.int .u8 b.toNat, ?_, rfl, .int _ _ _⟩
      simp [him, hb]
    · cases hi

theorem rowsIn_rep (hH : HRel w R H) {esz : Nat} {p : PV} {rows : List (List PV)} {ids : List Nat} {v : Value} (h : rowsIn H esz p = some (rows, ids)) (hz : szOK esz rows = true)
    (hv : Rep w (Xof H R) R p v) : Reads P w (Xof H R) esz rows v := by
  have hzs := fun i row => szOK_spec hz i row
  unfold rowsIn at h
  split at h
  · cases h; cases hv; exact reads_empty
  · split at h <;> cases h
    rename_i hb
    cases hv with
    | ro0 => exact reads_empty
    | ro _ k o sz _ c vs hk hs hl hz' hc hr =>
      cases hrow : rows with
      | nil => exact reads_empty
      | cons r0 rs =>
        rw [← hrow]
        have hse : sz = esz := by
          rw [← hz' 0 r0 (by rw [hrow]; rfl), hzs 0 r0 (by rw [hrow]; rfl)]
        subst hse
        exact reads_rows hzs fun i row j pv hi hj => ⟨_, (hc i row j pv hi hj).1, (hc i row j pv hi hj).2, hr i row j pv hi hj⟩
  · rename_i id off len cl
    have key : ∀ (sz : Nat) (rs : List (List PV)), (hget H id = some (.arr sz rs) ∨ hget H id = some (.froz sz rs)) →
        (match Nat.beq rs.length cl, Nat.beq sz esz with | true, true => some ((rs.drop off).take len, [id]) | _, _ => none) = some (rows, ids) → Reads P w (Xof H R) esz rows v := by
      intro sz rs hg hh
      split at hh <;> cases hh
      rename_i hb1 hb2
      have hcl := nbeq_iff.1 hb1
      have hsz := nbeq_iff.1 hb2
      have hvo : validO H id cl = true := by
        unfold validO
        rcases hg with hg | hg <;> rw [hg] <;> exact hb1
      obtain ⟨r, hr, hcl', hbx, hcase⟩ := own_real hH hvo hv
      rcases hcase with ⟨k, base, c, cs, et, fr, hk, b1, b2, b3, hw, b4, rfl⟩ | ⟨rfl, rfl, ad, rfl⟩
      · have hB : ∃ cs et, w.heap[k]? = some (.cells cs et (0, 0)) ∧ RowsAt w (Xof H R) cs base r.sz rs ∧ r.sz = sz := by
          rcases hg with hg | hg
          · obtain ⟨r', q1, _, _, q0, q2 | ⟨k', base', cs, et, q2, q3, q4, q5⟩⟩ := hH.has id _ hg
            · rw [hr] at q1; cases q1; rw [hk] at q2; cases q2.1
            · rw [hr] at q1; cases q1; rw [hk] at q2; cases q2; exact ⟨cs, et, q3, q5, q0⟩
          · obtain ⟨r', q1, _, _, q0, q2 | ⟨k', base', cs, et, q2, q3, q4, q5⟩⟩ := hH.has id _ hg
            · rw [hr] at q1; cases q1; rw [hk] at q2; cases q2.1
            · rw [hr] at q1; cases q1; rw [hk] at q2; cases q2; exact ⟨cs, et, q3, q5, q0⟩
        obtain ⟨cs', et', q3, q5, q6⟩ := hB
        have q7 := q6.trans hsz
        subst q7
        have hlen : ((rs.drop off).take len).length = len := by simp; omega
        have := reads_rows (P := P) (w := w) (X := Xof H R) (k := k) (o := base + off * r.sz) (c := c) hzs (fun i row j pv hi hj => by
          rw [List.getElem?_take] at hi
          split at hi
          · rw [List.getElem?_drop] at hi
            obtain ⟨u, h1, h2, h3⟩ := q5.2 (off + i) row j pv hi hj
            refine ⟨u, ?_, h2, h3⟩
            rw [show base + (off + i) * r.sz + j = base + off * r.sz + i * r.sz + j by rw [Nat.add_mul]; omega] at h1
            simp [cellAt, q3, h1]
          · cases hi)
        rwa [hlen] at this
      · have : (rs.drop off).take 0 = [] := by simp
        rw [this]
        exact reads_empty
    split at h
    · rename_i sz rs hg; exact key sz rs (.inl hg) h
    · rename_i sz rs hg; exact key sz rs (.inr hg) h
    · cases h
  · cases h; cases hv
    exact reads_str hz
  · cases h

end

end Go.Ev

/-
  Literals: structs and arrays put together from parts, slices put together from elements.
-/
import Derived.Test.YtcnipahcheooiaaE12
import Derived.Great.BuildSlice
namespace Go.Ev
open Go
set_option linter.unusedSectionVars false
set_option linter.unusedSimpArgs false
set_option linter.unusedVariables false
variable [Frame]

/-- Cells as they lie in an array of values. -/
def CellsAt (w : World) (X : Nat → Prop) (R : Refs) (cells : List PV) (arr : Array Value) : Prop :=
  cells.length = arr.size ∧ ∀ (j : Nat) (p : PV), cells[j]? = some p → ∃ v, arr[j]? = some v ∧ v.oneCell' = true ∧ Rep w X R p v

theorem mConstL_cells {w : World} {X : Nat → Prop} {R : Refs} {v : Array Value} {z : List PV} (h : mConstL v.toList z = true) : CellsAt w X R z v := by
  obtain ⟨hl, hh⟩ := mConstL_rep (w := w) (X := X) (R := R) h
  have hl' : v.size = z.length := by simpa using hl
  refine ⟨hl'.symm, fun j p hj => ?_⟩
  have hjl : j < z.length := (List.getElem?_eq_some_iff.1 hj).1
  have hjv : j < v.size := by omega
  obtain ⟨h1, h2⟩ := hh j p v[j] hj (by simp [hjv])
  exact ⟨_, by simp [hjv], h2, h1⟩

theorem CellsAt.agg {w : World} {X : Nat → Prop} {R : Refs} {cells : List PV} {arr : Array Value} (h : CellsAt w X R cells arr) : Rep w X R (.agg cells) (.agg arr) := by
  refine .agg R cells arr h.1.symm (fun i v hv => ?_) (fun i pv v hp hv => ?_)
  · have hi : i < arr.size := (Array.getElem?_eq_some_iff.1 hv).1
    have hi' : i < cells.length := by rw [h.1]; exact hi
    obtain ⟨u, h1, h2, _⟩ := h.2 i cells[i] (by simp)
    rw [hv] at h1; cases h1; exact h2
  · obtain ⟨u, h1, _, h3⟩ := h.2 i pv hp
    rw [hv] at h1; cases h1; exact h3

theorem flat_len {s : Nat} : ∀ {vs : List Value}, (∀ v ∈ vs, v.cells.size = s) → (vs.flatMap fun v => v.cells.toList).length = vs.length * s
  | [], _ => by simp
  | v :: vs, h => by
    have h1 : v.cells.toList.length = s := by simpa using h v (.head _)
    rw [List.flatMap_cons, List.length_append, flat_len (fun u hu => h u (.tail _ hu)), h1, List.length_cons, Nat.add_mul]
    omega

section
variable {P : Program} {cx : Cx} {gs : List Nat} {w : World} {R : Refs} {H : Heap} {env : Env} {a : Act}

def mParts (gs : List Nat) (place : Nat → Option (Nat × Nat)) : List (Nat × Operand) → List (Nat × Nat × Opd) → Bool
  | [], [] => true
  | (i, x) :: r, (o, n, y) :: s => decide (place i = some (o, n)) && mOpd gs x y && mParts gs place r s
  | _, _ => false

theorem fill_rep {X : Nat → Prop} (place : Nat → Option (Nat × Nat)) : ∀ {xs : List (Nat × Operand)} {ps : List (Nat × Nat × Opd)} {z cs : List PV} {arr : Array Value},
    mParts gs place xs ps = true → (∀ (x : Operand) (y : Opd), mOpd gs x y = true → Rep w X R (opd cx env y) (a.eval x)) → fillc (opd cx env) ps z = some cs → CellsAt w X R z arr →
    ∃ arr', Instr.fill place arr (xs.map fun p => (p.1, a.eval p.2)) = some arr' ∧ CellsAt w X R cs arr'
  | [], [], z, cs, arr, _, _, hf, hz => by
    simp only [fillc] at hf; cases hf
    exact ⟨arr, rfl, hz⟩
  | [], _ :: _, _, _, _, h, _, _, _ => by simp [mParts] at h
  | _ :: _, [], _, _, _, h, _, _, _ => by simp [mParts] at h
  | (i, x) :: xs, (o, n, y) :: ps, z, cs, arr, h, hR, hf, hz => by
    simp only [mParts, Bool.and_eq_true, decide_eq_true_eq] at h
    obtain ⟨⟨hp, hx⟩, hr⟩ := h
    simp only [fillc] at hf
    split at hf <;> first | (cases hf; done) | skip
    rename_i c hc
    split at hf <;> first | (cases hf; done) | skip
    rename_i hb1 hb2
    have hcn : c.length = n := nbeq_iff.1 hb1
    have hon : o + n ≤ z.length := Nat.le_of_ble_eq_true hb2
    obtain ⟨m1, m2⟩ := mcells_rep (hR x y hx) hc
    obtain ⟨g1, g2⟩ := Go.Great.foldl_set o (a.eval x).cells.toList 0 arr
    have hcell : CellsAt w X R (splice z o c) (((a.eval x).cells.toList.zipIdx 0).foldl (fun cs (p : Value × Nat) => cs.setIfInBounds (o + p.2) p.1) arr) := by
      refine ⟨by rw [g1, splice_len (by omega)]; exact hz.1, fun j p hj => ?_⟩
      rw [splice_get j (by omega)] at hj
      rw [g2 j]
      by_cases hin : o ≤ j ∧ j < o + c.length
      · rw [if_pos hin] at hj
        rw [if_pos (by have := hz.1; simp; omega)]
        obtain ⟨u, u1, u2, u3⟩ := m2 _ p hj
        exact ⟨u, by simpa using u1, u2, u3⟩
      · rw [if_neg hin] at hj
        rw [if_neg (by simp; omega)]
        exact hz.2 j p hj
    obtain ⟨arr', f1, f2⟩ := fill_rep place hr hR hf hcell
    refine ⟨arr', ?_, f2⟩
    simp only [List.map_cons]
    unfold Instr.fill
    simp only [hp]
    rw [if_neg (by have := hz.1; simp; omega), ← f1]
    congr 1
    rw [← Array.foldl_toList, Array.toList_zipIdx]

theorem ok_build (hH : HRel w R H) (hE : ERel w R H env a.tmps) (hG : GlobOK cx gs w (Xof H R)) {o : Oper} {t : TypeId} {xs : Array (Nat × Operand)} {ps : List (Nat × Nat × Opd)} {z : List PV} {zv : Value} {e : Eff}
    (place : Nat → Option (Nat × Nat)) (ho : o.op = .build t xs) (hb : ∀ vs, P.built t vs = Instr.fill place zv.cells vs) (hz : mConstL zv.cells.toList z = true) (hx : mParts gs place xs.toList ps = true)
    (he : evOp cx env H (.build z ps) = some e) : OpOK P o a w R H e := by
  simp only [evOp] at he
  split at he <;> cases he
  rename_i cs hf
  obtain ⟨arr', f1, f2⟩ := fill_rep (w := w) (X := Xof H R) (R := R) (a := a) place hx (fun x y h => opd_rep hE hG h) hf (mConstL_cells hz)
  have hr := run_build w t (xs.map fun (p : Nat × Operand) => (p.1, a.eval p.2)) arr' (by rw [hb, ← f1]; simp) (P := P)
  exact OpOK.pure hH (v := .agg arr') (by simp [execOp, ho, hr]) f2.agg

theorem run_buildSlice0 (w : World) (t e : TypeId) (ie : TypeInfo) (hu : P.underlying t = some (.slice e)) (hie : P.info? e = some ie) :
    (Instr.buildSlice t 0 #[]).run P w = .ok (.slice (some ⟨w.heap.size, 0, none⟩) 0 0) (w.alloc (.cells #[] e)) := by
  simp [Instr.buildSlice, run_underlying hu, sizeOf, typeInfo, hie, newRow, Instr.fill, Array.range_zero']

theorem rowOf_rep (hH : HRel w R H) {p : PV} {cs : List PV} {ids : List Nat} {v : Value} (h : rowOf H p = some (cs, ids)) (hv : Rep w (Xof H R) R p v) :
    v.cells.size = cs.length ∧ ∀ X' : Nat → Prop, Shown w R H X' ids → CellsAt w X' noRefs cs v.cells := by
  unfold rowOf at h
  split at h <;> first | (cases h; done) | skip
  rename_i c hc
  obtain ⟨m1, m2⟩ := mcells_rep hv hc
  have hlen : cs.length = c.length := by
    have : ∀ {ps qs : List PV} {ids : List Nat}, cloL H ps = some (qs, ids) → qs.length = ps.length := by
      intro ps
      induction ps with
      | nil => intro qs ids h; simp [cloL] at h; simp [h.1.symm]
      | cons p ps ih =>
        intro qs ids h
        simp only [cloL] at h
        split at h <;> first | (cases h; done) | skip
        split at h <;> cases h
        rename_i hb
        simp [ih hb]
    exact this h
  refine ⟨by omega, fun X' hS => ⟨by omega, fun j p hj => ?_⟩⟩
  obtain ⟨_, hh⟩ := cloL_rep hH h hS
  have hjc : j < c.length := by rw [← hlen]; exact (List.getElem?_eq_some_iff.1 hj).1
  obtain ⟨u, u1, u2, u3⟩ := m2 j c[j] (by simp)
  exact ⟨u, u1, u2, hh j c[j] p u (by simp) hj u3⟩

def mElems (gs : List Nat) : Nat → List (Nat × Operand) → List Opd → Bool
  | _, [], [] => true
  | k, (i, x) :: r, y :: s => Nat.beq i k && mOpd gs x y && mElems gs (k + 1) r s
  | _, _, _ => false

theorem elems_rep (hH : HRel w R H) {esz : Nat} : ∀ {k : Nat} {xs : List (Nat × Operand)} {ys : List Opd} {rows : List (List PV)} {ids : List Nat},
    mElems gs k xs ys = true → (∀ (x : Operand) (y : Opd), mOpd gs x y = true → Rep w (Xof H R) R (opd cx env y) (a.eval x)) → rowsOf H esz (opds cx env ys) = some (rows, ids) →
    (xs.map fun p => (p.1, a.eval p.2)) = ((xs.map fun p => a.eval p.2).zipIdx k).map (fun p => (p.2, p.1)) ∧ xs.length = rows.length ∧ (∀ v ∈ (xs.map fun p => a.eval p.2), v.cells.size = esz) ∧
      ∀ (i : Nat) (row : List PV), rows[i]? = some row → ∃ v, (xs.map fun p => a.eval p.2)[i]? = some v ∧ ∀ X' : Nat → Prop, Shown w R H X' ids → CellsAt w X' noRefs row v.cells
  | k, [], [], rows, ids, _, _, h => by
    simp [opds, rowsOf] at h
    obtain ⟨rfl, rfl⟩ := h
    exact ⟨rfl, rfl, fun v hv => by simp at hv, fun i row hi => by simp at hi⟩
  | _, [], _ :: _, _, _, h, _, _ => by simp [mElems] at h
  | _, _ :: _, [], _, _, h, _, _ => by simp [mElems] at h
  | k, (i, x) :: xs, y :: ys, rows, ids, h, hR, hr => by
    simp only [mElems, Bool.and_eq_true] at h
    obtain ⟨⟨hk, hx⟩, hrest⟩ := h
    have hk := nbeq_iff.1 hk
    subst hk
    simp only [opds, rowsOf] at hr
    split at hr <;> first | (cases hr; done) | skip
    rename_i c xid hc
    split at hr <;> cases hr
    rename_i rows' yid hb hr'
    obtain ⟨e1, e2, e3, e4⟩ := elems_rep hH hrest hR hr'
    obtain ⟨r1, r2⟩ := rowOf_rep hH hc (hR x y hx)
    have hcl := nbeq_iff.1 hb
    refine ⟨by simp [e1, List.zipIdx_cons], by simp [e2], fun v hv => ?_, fun j row hj => ?_⟩
    · simp only [List.map_cons, List.mem_cons] at hv
      rcases hv with rfl | hv
      · omega
      · exact e3 v hv
    · cases j with
      | zero => simp at hj; subst hj; exact ⟨_, by simp, fun X' hS => r2 X' (hS.mono fun i hi => List.mem_append_left _ hi)⟩
      | succ j =>
        simp at hj
        obtain ⟨v, v1, v2⟩ := e4 j row hj
        exact ⟨v, by simpa using v1, fun X' hS => v2 X' (hS.mono fun i hi => List.mem_append_right _ hi)⟩

theorem ok_bslice (hH : HRel w R H) (hE : ERel w R H env a.tmps) (hG : GlobOK cx gs w (Xof H R)) {o : Oper} {t el : TypeId} {n : Nat} {xs : Array (Nat × Operand)} {ys : List Opd} {id esz : Nat} {i : TypeInfo} {z : Value} {e : Eff}
    (ho : o.op = .buildSlice t n xs) (ht : P.underlying t = some (.slice el)) (hi : P.info? el = some i) (hz : i.zero = some z) (hs : i.size = esz) (hs0 : 0 < esz) (hn : n = xs.size) (hn2 : n * esz ≤ 2 ^ 24)
    (hx : mElems gs 0 xs.toList ys = true) (he : evOp cx env H (.bslice id esz ys) = some e) : OpOK P o a w R H e := by
  simp only [evOp] at he
  split at he <;> first | (cases he; done) | skip
  rename_i rows ids hid hrows
  split at he <;> first | (cases he; done) | skip
  rename_i fr hfr
  obtain ⟨e1, e2, e3, e4⟩ := elems_rep hH hx (fun x y h => opd_rep hE hG h) hrows
  have ho' : execOp a.eval o = .value <$> Instr.buildSlice t n (xs.map fun (p : Nat × Operand) => (p.1, a.eval p.2)) := by simp [execOp, ho]
  subst hn hs
  split at he
  · cases he
    have hx0 : xs = #[] := by
      have : xs.toList.length = 0 := by simp_all
      simpa using this
    subst hx0
    obtain ⟨R', hp⟩ := post_arr0 (w := w) (R := R) (rd := []) (n := 0) (et := el) (sz := i.size) (c := 0) (rows := []) (arr := #[]) hH hid (Nat.le_refl _) (by simp) (fun X' _ => ⟨fun _ _ h => by simp at h, fun _ _ _ _ h => by simp at h⟩)
    have hr := run_buildSlice0 w t el i ht hi
    have hpu : Post w R H ⟨.nul, [], [id]⟩ (.slice (some ⟨w.heap.size, 0, none⟩) 0 0) (pushed w (.cells #[] el) 0) R := by
      have hG' : ∀ X, Grow w X (pushed w (.cells #[] el) 0) := fun X => Grow.pushed _ _ rfl
      refine ⟨hH.change (hG' _) (RExt.refl R) (fun k _ hn => hn) (fun i h => hH.dom i h) (fun i b hb => .inl ⟨hb, rfl, ?_⟩) (fun i i' b b' r r' k o o' => hH.inj i i' b b' r r' k o o') hH.off, RExt.refl R, hG' _, fun k _ hn => hn, .nul _ _⟩
      cases hd : deadB b with
      | true => exact .inl rfl
      | false => exact .inr fun r k o hr hk => pushed_old (hH.lt hb hd hr hk)
    refine OpOK.of_run (v := .slice (some ⟨w.heap.size, 0, none⟩) 0 0) ?_ hpu
    rw [ho']
    simp [hr]
    rfl
  · rename_i hne
    cases he
    have hpos : 0 < xs.size := by
      have : xs.toList.length = rows.length := e2
      cases rows with
      | nil => exact absurd rfl hne
      | cons => simp at this; omega
    obtain ⟨hzl, _⟩ := (⟨rfl, trivial⟩ : xs.size = xs.size ∧ True)
    have hfw := Go.Great.fill_whole hs0 (xs.toList.map fun p => a.eval p.2) ((Array.range (xs.size * i.size)).map (z.cells[· % z.cells.size]!)) e3 (by simp)
    have hr := run_buildSlice w t el xs.size (xs.map fun (p : Nat × Operand) => (p.1, a.eval p.2)) _ i z ht hi hz (by omega) (by have := Nat.mul_pos hpos hs0; omega) (P := P) (by rw [← hfw, ← e1]; simp)
    have hlen : rows.length = xs.size := by simpa using e2.symm
    have hfl := Go.Great.flat_get hs0 (xs.toList.map fun p => a.eval p.2) e3
    have hra : ∀ X' : Nat → Prop, Shown w R H X' ids → RowsAt w X' ((xs.toList.map fun p => a.eval p.2).flatMap fun v => v.cells.toList).toArray 0 i.size rows := by
      intro X' hS
      refine ⟨fun k row hk => ?_, fun k row j pv hk hj => ?_⟩
      · obtain ⟨v, v1, v2⟩ := e4 k row hk
        rw [(v2 X' hS).1]
        exact e3 v (List.mem_of_getElem? v1)
      · obtain ⟨v, v1, v2⟩ := e4 k row hk
        obtain ⟨u, u1, u2, u3⟩ := (v2 X' hS).2 j pv hj
        refine ⟨u, ?_, u2, u3⟩
        have hjl : j < i.size := by
          rw [← e3 v (List.mem_of_getElem? v1)]
          exact (Array.getElem?_eq_some_iff.1 u1).1
        rw [List.getElem?_toArray, hfl, Nat.zero_add, Nat.mul_comm k, Nat.mul_add_div hs0, Nat.mul_add_mod, Nat.div_eq_of_lt hjl, Nat.mod_eq_of_lt hjl, Nat.add_zero, v1]
        exact u1
    obtain ⟨R', hp⟩ := post_arr (w := w) (R := R) (rd := ids) (n := 0) (et := el) (c := rows.length) hH hid hfr (Nat.le_refl _) (by
      have : ((xs.toList.map fun p => a.eval p.2).flatMap fun v => v.cells.toList).length = rows.length * i.size := by
        rw [flat_len e3]
        simp [hlen]
      simp only [List.size_toArray]
      omega) hra
    refine OpOK.of_run (v := .slice (some ⟨w.heap.size, 0, none⟩) rows.length rows.length) ?_ hp
    rw [ho']
    simp [hr, hlen]
    rfl

end

end Go.Ev

/-
  Variables: made, read, written: each operation comes to the value that the evaluator gives, and memory is what it says.
-/
import Derived.Test.YtcnipahcheooiaaE8
namespace Go.Ev
open Go
set_option linter.unusedSectionVars false
set_option linter.unusedSimpArgs false
set_option linter.unusedVariables false
variable [Frame]

section
variable {P : Program} {cx : Cx} {gs : List Nat} {w : World} {R : Refs} {H : Heap} {env : Env} {a : Act}

theorem run_loadCells_row {k off n : Nat} {cs : Array Value} {et : TypeId} {fr : Nat × Nat} (hw : w.heap[k]? = some (.cells cs et fr)) (hn : off + n ≤ cs.size) :
    (loadCells ⟨k, off, none⟩ n).run P w = .ok (cs.extract off (off + n)) w := by
  rw [run_loadCells w ⟨k, off, none⟩ n (fun j => cs.getD (off + j) undef)]
  · congr 1
    apply Array.ext
    · simp; omega
    · intro i h1 h2
      simp at h1
      have : off + i < cs.size := by omega
      simp [Array.getD, this]
  · intro j hj
    rw [add_none, cell?_eq]
    have : off + j < cs.size := by omega
    simp [cellAt, hw, this]

theorem extract_extract {cs : Array Value} {base j sz : Nat} (h : base + (j + sz) ≤ cs.size) : (cs.extract base cs.size).extract j (j + sz) = cs.extract (base + j) (base + j + sz) := by
  apply Array.ext
  · simp; omega
  · intro i h1 h2
    simp [Nat.add_assoc]

theorem load_from {X : Nat → Prop} {k base j sz : Nat} {agg : Bool} {cs : Array Value} {et t : TypeId} {fr : Nat × Nat} {cells : List PV} {p : PV}
    (hw : w.heap[k]? = some (.cells cs et fr)) (hb : base + cells.length ≤ cs.size)
    (hc : ∀ (j : Nat) (pv : PV), cells[j]? = some pv → ∃ v, cs[base + j]? = some v ∧ v.oneCell' = true ∧ Rep w X R pv v)
    (hr : rdc cells j sz agg = some p) (hsz : tySize P t = some sz) (hag : tyAgg P t = some agg) :
    ∃ v, (loadVar t ⟨k, base + j, none⟩).run P w = .ok v w ∧ Rep w X R p v := by
  have hget : ∀ (i : Nat) v, (cs.extract base cs.size)[i]? = some v → cs[base + i]? = some v := by
    intro i v hv
    obtain ⟨h1, h2⟩ := Array.getElem?_eq_some_iff.1 hv
    rw [Array.getElem_extract] at h2
    simp at h1
    exact Array.getElem?_eq_some_iff.2 ⟨by omega, h2⟩
  obtain ⟨ra, rb⟩ := rdc_rep (w := w) (R := R) (X := X) hr (arr := cs.extract base cs.size) (by simp; omega) (fun i q v hq hv => by
    obtain ⟨u, h1, h2, h3⟩ := hc i q hq
    have := hget i v hv
    rw [h1] at this; cases this
    exact ⟨h2, h3⟩)
  cases agg with
  | true =>
    obtain ⟨h1, h2⟩ := ra rfl
    simp at h1
    refine ⟨_, ?_, h2⟩
    rw [extract_extract (by omega)]
    simp [loadVar, run_isAgg' hag, run_sizeOf' hsz, run_loadCells_row hw (show base + j + sz ≤ cs.size by omega)]
  | false =>
    obtain ⟨v, hv, hrep⟩ := rb rfl
    have hv := hget j v hv
    refine ⟨v, ?_, hrep⟩
    have hc : w.cell? ⟨k, base + j, none⟩ = some v := by rw [cell?_eq]; simp [cellAt, hw, hv]
    simp [loadVar, run_isAgg' hag, hc]

theorem ok_load (hH : HRel w R H) (hE : ERel w R H env a.tmps) (hG : GlobOK cx gs w (Xof H R)) {o : Oper} {t : TypeId} {x : Operand} {x' : Opd} {sz : Nat} {agg : Bool} {e : Eff}
    (ho : o.op = .load t x) (hsz : tySize P t = some sz) (hag : tyAgg P t = some agg) (h1 : agg = false ∨ sz ≠ 0)
    (hx : mOpd gs x x' = true) (he : evOp cx env H (.load sz agg x') = some e) : OpOK P o a w R H e := by
  have rx := opd_rep hE hG hx
  simp only [evOp] at he
  generalize hp : opd cx env x' = pv at rx he
  generalize hv : a.eval x = v at rx
  have run : ∀ {ad : Addr} {u : Value} {p : PV} {rd : List Nat}, v = .pointer (some ad) → (loadVar t ad).run P w = .ok u w → Rep w (Xof H R) R p u → OpOK P o a w R H ⟨p, [], rd⟩ := by
    intro ad u p rd e1 h2 h3
    subst e1
    exact OpOK.pure hH (v := u) (by simp [execOp, ho, hv, Instr.loadAt, Instr.sureAddr, h2]) h3
  cases pv <;> (try simp only at he) <;> first | (cases he; done) | skip
  · rename_i id j
    split at he <;> first | (cases he; done) | skip
    rename_i cells hg
    split at he <;> cases he
    rename_i p hr
    cases rx with
    | ptr _ _ b k base _ h hb hk =>
      obtain ⟨r, hr1, _, k', base', cs, et, h2, h3, h4, h5⟩ := hH.has id _ hg
      rw [h] at hr1; cases hr1
      rw [hk] at h2; cases h2
      obtain ⟨u, h6, h7⟩ := load_from (P := P) h3 h4 h5 hr hsz hag
      exact run rfl h6 h7
  · rename_i id i j cl
    have key : ∀ (z : Nat) (rows : List (List PV)), (hget H id = some (.arr z rows) ∨ hget H id = some (.froz z rows)) →
        (match Nat.beq rows.length cl, rows[i]? with
        | true, some row => match rdc row j sz agg with | some v => some (⟨v, [], [id]⟩ : Eff) | none => none
        | _, _ => none) = some e → OpOK P o a w R H e := by
      intro z rows hg he
      split at he <;> first | (cases he; done) | skip
      rename_i row hb hrow
      split at he <;> cases he
      rename_i p hr
      have hvo : validO H id cl = true := by
        unfold validO
        rcases hg with hg | hg <;> rw [hg] <;> exact hb
      obtain ⟨r, k, base, e1, e2, e3, e4, rfl⟩ := eptr_real hH hvo rx
      have hB : ∃ cs et, w.heap[k]? = some (.cells cs et (0, 0)) ∧ base + rows.length * r.sz ≤ cs.size ∧ RowsAt w (Xof H R) cs base r.sz rows := by
        rcases hg with hg | hg
        · obtain ⟨r', q1, _, _, _, q2 | ⟨k', base', cs, et, q2, q3, q4, q5⟩⟩ := hH.has id _ hg
          · rw [e1] at q1; cases q1; rw [e4] at q2; cases q2.1
          · rw [e1] at q1; cases q1; rw [e4] at q2; cases q2; exact ⟨cs, et, q3, q4, q5⟩
        · obtain ⟨r', q1, _, _, _, q2 | ⟨k', base', cs, et, q2, q3, q4, q5⟩⟩ := hH.has id _ hg
          · rw [e1] at q1; cases q1; rw [e4] at q2; cases q2.1
          · rw [e1] at q1; cases q1; rw [e4] at q2; cases q2; exact ⟨cs, et, q3, q4, q5⟩
      obtain ⟨cs, et, q3, q4, q5⟩ := hB
      have hrl := q5.1 i row hrow
      have hil : i < rows.length := (List.getElem?_eq_some_iff.1 hrow).1
      have hmul : i * r.sz + r.sz ≤ rows.length * r.sz := by
        have := Nat.mul_le_mul_right r.sz (show i + 1 ≤ rows.length from hil)
        rwa [Nat.add_mul, Nat.one_mul] at this
      obtain ⟨u, h6, h7⟩ := load_from (P := P) (R := R) (base := base + i * r.sz) q3 (by rw [hrl]; omega) (fun j pv hj => by
        obtain ⟨v, a1, a2, a3⟩ := q5.2 i row j pv hrow hj
        exact ⟨v, a1, a2, a3.up⟩) hr hsz hag
      exact run rfl h6 h7
    split at he
    · rename_i z rows hg; exact key z rows (.inl hg) he
    · rename_i z rows hg; exact key z rows (.inr hg) he
    · cases he
  · rename_i cells
    split at he <;> cases he
    rename_i p hr
    cases rx with
    | rptr _ k q _ vs hk hs hc hrr =>
      have hne : 0 < cells.length := by
        unfold rdc at hr
        cases agg with
        | true =>
          simp only at hr
          split at hr <;> cases hr
          rename_i hb
          have := Nat.le_of_ble_eq_true hb
          rcases h1 with h1 | h1
          · cases h1
          · omega
        | false =>
          simp only at hr
          have := (List.getElem?_eq_some_iff.1 hr).1
          omega
      have h0 := hc 0 cells[0] (by simp)
      have : ∃ cs et fr, w.heap[k]? = some (.cells cs et fr) := by
        unfold cellAt at h0
        split at h0
        · exact ⟨_, _, _, by assumption⟩
        · simp at h0
      obtain ⟨cs, et, fr, hw⟩ := this
      have hca : ∀ i pv, cells[i]? = some pv → cs[q + i]? = some (vs i) := by
        intro i pv hi
        have := (hc i pv hi).1
        simpa [cellAt, hw] using this
      have hlen : q + cells.length ≤ cs.size := by
        have := hca (cells.length - 1) cells[cells.length - 1] (List.getElem?_eq_getElem (by omega))
        have := (Array.getElem?_eq_some_iff.1 this).1
        omega
      obtain ⟨u, h6, h7⟩ := load_from (P := P) (R := R) (j := 0) hw hlen (fun j pv hj => ⟨vs j, hca j pv hj, (hc j pv hj).2, (hrr j pv hj).up⟩) hr hsz hag
      exact run rfl h6 h7

/-! ### Writing -/
theorem splice_get : ∀ {cells : List PV} {j : Nat} {new : List PV} (i : Nat), j + new.length ≤ cells.length →
    (splice cells j new)[i]? = if j ≤ i ∧ i < j + new.length then new[i - j]? else cells[i]?
  | cells, 0, new, i, h => by
    simp only [splice]
    rw [List.getElem?_append]
    by_cases hi : i < new.length
    · simp [hi]
    · rw [if_neg hi, if_neg (by omega), List.getElem?_drop]
      congr 1
      omega
  | [], j + 1, new, i, h => by simp at h
  | c :: r, j + 1, new, i, h => by
    simp only [splice]
    cases i with
    | zero => simp
    | succ i =>
      simp only [List.getElem?_cons_succ]
      rw [splice_get i (by simp at h; omega)]
      by_cases h1 : j ≤ i ∧ i < j + new.length
      · rw [if_pos h1, if_pos (by omega)]
        congr 1
        omega
      · rw [if_neg h1, if_neg (by omega)]
theorem splice_len : ∀ {cells : List PV} {j : Nat} {new : List PV}, j + new.length ≤ cells.length → (splice cells j new).length = cells.length
  | cells, 0, new, h => by simp [splice]; omega
  | [], j + 1, new, h => by simp at h
  | c :: r, j + 1, new, h => by simp only [splice, List.length_cons]; rw [splice_len (by simp at h; omega)]

/-- Some cells of a row are others. -/
def putRow (cur : Array Value) (off : Nat) (vs : List Value) : Array Value :=
  (cur.toList.take off ++ vs ++ cur.toList.drop (off + vs.length)).toArray
theorem putRow_size {cur : Array Value} {off : Nat} {vs : List Value} (h : off + vs.length ≤ cur.size) : (putRow cur off vs).size = cur.size := by
  simp [putRow]; omega
theorem putRow_get {cur : Array Value} {off : Nat} {vs : List Value} (h : off + vs.length ≤ cur.size) (i : Nat) :
    (putRow cur off vs)[i]? = if off ≤ i ∧ i < off + vs.length then vs[i - off]? else cur[i]? := by
  have h' : off + vs.length ≤ cur.toList.length := by simpa using h
  simp only [putRow, List.getElem?_toArray]
  rw [List.append_assoc, List.getElem?_append]
  have ht : (cur.toList.take off).length = off := by simp; omega
  rw [ht]
  by_cases h1 : i < off
  · rw [if_pos h1, if_neg (by omega), List.getElem?_take, if_pos h1]
    simp
  · rw [if_neg h1, List.getElem?_append]
    by_cases h2 : i - off < vs.length
    · rw [if_pos h2, if_pos (by omega)]
    · rw [if_neg h2, if_neg (by omega), List.getElem?_drop]
      rw [show off + vs.length + (i - off - vs.length) = i by omega]
      simp

theorem setRow_same {k : Nat} {cur new : Array Value} {et : TypeId} {fr : Nat × Nat} (hw : w.heap[k]? = some (.cells cur et fr)) : (w.setRow k new).heap[k]? = some (.cells new et fr) :=
  setRow_heap w k cur new et fr hw
theorem setRow_other {k j : Nat} {new : Array Value} (h : j ≠ k) : (w.setRow k new).heap[j]? = w.heap[j]? := by
  simp only [World.setRow, Array.getElem?_modify]
  rw [if_neg (by omega)]
theorem setRow_size {k : Nat} {new : Array Value} : (w.setRow k new).heap.size = w.heap.size := by simp [World.setRow]

theorem Grow.setRow {X : Nat → Prop} {k : Nat} {cur new : Array Value} {et : TypeId} {fr : Nat × Nat} (hw : w.heap[k]? = some (.cells cur et fr)) (hs : new.size = cur.size) (hX : X k) : Grow w X (w.setRow k new) :=
  ⟨by rw [setRow_size]; exact Nat.le_refl _,
   fun j _ hj => setRow_other fun e => hj (e ▸ hX),
   fun j cs et' fr' hj => by
     by_cases e : j = k
     · subst e; rw [hw] at hj; cases hj; exact ⟨new, setRow_same hw, hs⟩
     · exact ⟨cs, (setRow_other e).trans hj, rfl⟩,
   rfl, rfl, rfl, fun a => by
     unfold World.frozen?
     by_cases e : a.block = k
     · rw [e, setRow_same hw, hw]
     · rw [setRow_other e]⟩

theorem run_storeVar_at {k off sz : Nat} {cur : Array Value} {et t : TypeId} {v : Value} (hw : w.heap[k]? = some (.cells cur et (0, 0))) (hsz : tySize P t = some sz)
    (hv : v.cells.size = sz) (hl : off + sz ≤ cur.size) (h1 : ∀ u ∈ v.cells.toList, u.oneCell' = true) :
    (storeVar t ⟨k, off, none⟩ v).run P w = .ok () (w.setRow k (putRow cur off v.cells.toList)) := by
  have := run_storeCells_at (P := P) k off et v.cells.toList 0 cur w hw (by simp; omega) h1
  simp only [Nat.add_zero] at this
  simp [storeVar, run_sizeOf' hsz, hv, this, putRow]

theorem Xof_live {id : Nat} {b : Blk} {r : RB} {k o : Nat} (hb : hget H id = some b) (hl : liveB b = true) (hr : R id = some r) (hk : r.blk = some (k, o)) : Own H R k :=
  ⟨id, b, r, o, hb, hl, hr, hk⟩

theorem ok_storeBox (hH : HRel w R H) (hE : ERel w R H env a.tmps) (hG : GlobOK cx gs w (Xof H R)) {o : Oper} {t : TypeId} {x y : Operand} {x' y' : Opd} {sz id j : Nat} {cells cs : List PV}
    (ho : o.op = .store t x y) (hsz : tySize P t = some sz) (hx : mOpd gs x x' = true) (hy : mOpd gs y y' = true) (hdst : o.dst = none)
    (hp : opd cx env x' = .ptr id j) (hg : hget H id = some (.box cells)) (hc : mcells (opd cx env y') = some cs) (hcs : cs.length = sz) (hj : j + sz ≤ cells.length) :
    ∃ w' R', (execOp a.eval o).run P w = .ok .skip w' ∧ Post w R H ⟨.undef, [(id, .box (splice cells j cs))], []⟩ undef w' R' := by
  have rx := opd_rep hE hG hx
  have ry := opd_rep hE hG hy
  rw [hp] at rx
  generalize hv : a.eval x = v at rx
  cases rx with
  | ptr _ _ b k base _ h hb hk =>
    obtain ⟨r, hr1, _, k', base', cur, et, h2, h3, h4, h5⟩ := hH.has id _ hg
    rw [h] at hr1; cases hr1
    rw [hk] at h2; cases h2
    obtain ⟨m1, m2⟩ := mcells_rep ry hc
    have hsize : (a.eval y).cells.size = sz := m1.trans hcs
    have hXk : Own H R k := Xof_live hg rfl h hk
    have hone : ∀ u ∈ (a.eval y).cells.toList, u.oneCell' = true := by
      intro u hu
      obtain ⟨i, hi, rfl⟩ := List.getElem_of_mem hu
      simp at hi
      obtain ⟨u', q1, q2, _⟩ := m2 i cs[i] (List.getElem?_eq_getElem (by omega))
      rw [Array.getElem?_eq_getElem hi] at q1
      cases q1
      simpa using q2
    have hlen : base + j + ((a.eval y).cells.toList).length ≤ cur.size := by simp; omega
    let new := putRow cur (base + j) (a.eval y).cells.toList
    have hns : new.size = cur.size := putRow_size hlen
    have hG' : Grow w (Own H R) (w.setRow k new) := Grow.setRow h3 hns hXk
    have hst := run_storeVar_at (P := P) (k := k) (off := base + j) (t := t) (v := a.eval y) h3 hsz hsize (by omega) hone
    have hrun : (execOp a.eval o).run P w = .ok .skip (w.setRow k new) := by
      simp [execOp, ho, hv, Instr.storeAt, Instr.sureAddr, hst, new]
    have hsl : (splice cells j cs).length = cells.length := splice_len (by omega)
    have hRE : RExt R (upR R id b) := by
      intro i q hq
      by_cases e : i = id
      · subst e; rw [h] at hq; cases hq; exact ⟨_, upR_same R _ _, .inl rfl⟩
      · exact ⟨q, by rw [upR_ne R b e]; exact hq, .inl rfl⟩
    have hX' : ∀ k1, k1 < w.heap.size → ¬ Xof H R k1 → ¬ Xof (hset H id (.box (splice cells j cs))) (upR R id b) k1 := by
      rintro k1 _ hn (hF | ⟨i, c, q, o', hi, hl, hq, hb'⟩)
      · exact hn (.inl hF)
      rw [hget_hset] at hi
      by_cases e : i = id
      · subst e; rw [upR_same] at hq; cases hq; exact hn (.inr ⟨i, _, b, o', hg, rfl, h, hb'⟩)
      · rw [if_neg e] at hi; rw [upR_ne R b e] at hq; exact hn (.inr ⟨i, c, q, o', hi, hl, hq, hb'⟩)
    have hB : BRel (w.setRow k new) (Xof (hset H id (.box (splice cells j cs))) (upR R id b)) (upR R id b) b (.box (splice cells j cs)) := by
      refine ⟨hb, k, base, new, et, hk, setRow_same h3, by rw [hsl, hns]; exact h4, fun i pv hi => ?_⟩
      rw [splice_get i (by omega)] at hi
      have hnew := putRow_get hlen (base + i)
      by_cases hin : j ≤ i ∧ i < j + cs.length
      · rw [if_pos hin] at hi
        obtain ⟨u, a1, a2, a3⟩ := m2 _ pv hi
        refine ⟨u, ?_, a2, a3.mono hG'.weak hX' hRE⟩
        rw [show new = putRow cur (base + j) (a.eval y).cells.toList from rfl, hnew, if_pos (by simp; omega)]
        rw [show base + i - (base + j) = i - j by omega]
        simpa using a1
      · rw [if_neg hin] at hi
        obtain ⟨u, a1, a2, a3⟩ := h5 i pv hi
        refine ⟨u, ?_, a2, a3.mono hG'.weak hX' hRE⟩
        rw [show new = putRow cur (base + j) (a.eval y).cells.toList from rfl, hnew, if_neg (by simp; omega)]
        exact a1
    obtain ⟨q1, q2, q3⟩ := hH.write (w' := w.setRow k new) (b := .box (splice cells j cs)) (r' := b) hg h rfl hG'.weak
      (fun i _ hi => setRow_other fun e => hi base (by rw [e]; exact hk))
      (fun k' o' h' => .inl ⟨o', h'⟩) (.inl rfl) hB
    exact ⟨_, _, hrun, q1, q2, hG', q3, .undef _⟩

end

end Go.Ev

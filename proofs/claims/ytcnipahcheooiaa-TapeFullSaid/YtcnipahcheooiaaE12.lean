/-
  New blocks: variables, literals of slices, slices that are made: each operation comes to the value that the evaluator gives.
-/
import Derived.Test.YtcnipahcheooiaaE11
namespace Go.Ev
open Go
set_option linter.unusedSectionVars false
set_option linter.unusedSimpArgs false
set_option linter.unusedVariables false
variable [Frame]

section
variable {P : Program} {cx : Cx} {gs : List Nat} {w : World} {R : Refs} {H : Heap} {env : Env} {a : Act}

/-- The world with a new block, some draws later. -/
def pushed (w : World) (o : Obj) (n : Nat) : World := { w with heap := w.heap.push o, drawn := w.drawn + n }
theorem pushed_old {o : Obj} {n k : Nat} (h : k < w.heap.size) : (pushed w o n).heap[k]? = w.heap[k]? := by
  show (w.heap.push o)[k]? = _
  rw [Array.getElem?_push, if_neg (by omega)]
theorem pushed_new {o : Obj} {n : Nat} : (pushed w o n).heap[w.heap.size]? = some o := by
  show (w.heap.push o)[w.heap.size]? = _
  simp
/-- Memory that may be written. -/
def openO : Obj → Bool
  | .cells _ _ (lo, hi) => Nat.ble hi lo
  | _ => true
theorem pushed_froz {o : Obj} (ho : openO o = true) (n : Nat) (a : Addr) : (pushed w o n).frozen? a = w.frozen? a := by
  unfold World.frozen?
  rcases Nat.lt_trichotomy a.block w.heap.size with h | h | h
  · rw [pushed_old h]
  · rw [h, pushed_new, show w.heap[w.heap.size]? = none by simp]
    unfold openO at ho
    split at ho
    · rename_i lo hi
      have := Nat.le_of_ble_eq_true ho
      simp only
      rw [Bool.and_eq_false_iff]
      by_cases hl : lo ≤ a.off
      · right; simp; omega
      · left; simpa using hl
    · rename_i hne
      split
      · rename_i lo hi e
        cases e
        exact absurd rfl (hne _ _ _ _)
      · rfl
  · have h1 : (pushed w o n).heap[a.block]? = none := by
      show (w.heap.push o)[a.block]? = none
      simp; omega
    have h2 : w.heap[a.block]? = none := by simp; omega
    rw [h1, h2]
theorem Grow.pushed {X : Nat → Prop} (o : Obj) (n : Nat) (ho : openO o = true) : Grow w X (pushed w o n) :=
  ⟨by show _ ≤ (w.heap.push o).size; simp, fun k hk _ => pushed_old hk,
   fun k cs et fr hk => ⟨cs, (pushed_old (Array.getElem?_eq_some_iff.1 hk).1).trans hk, rfl⟩, rfl, rfl, rfl, pushed_froz ho n⟩

theorem OpOK.of_skip {o : Oper} {w' : World} {R' : Refs} {e : Eff}
    (hr : (execOp a.eval o).run P w = .ok .skip w') (hp : Post w R H e Go.undef w' R') : OpOK P o a w R H e := by
  intro next Q h
  rw [hr]
  exact h Go.undef w' R' hp

/-- A new variable. -/
theorem post_box (hH : HRel w R H) {id : Nat} (hid : hget H id = none) {cells : List PV} {arr : Array Value} {et : TypeId} (hl : cells.length ≤ arr.size)
    (hc : ∀ (j : Nat) (pv : PV), cells[j]? = some pv → ∃ v, arr[j]? = some v ∧ v.oneCell' = true ∧ Rep w (Xof H R) R pv v) :
    ∃ R', Post w R H ⟨.ptr id 0, [(id, .box cells)], []⟩ (.pointer (some ⟨w.heap.size, 0, none⟩)) (pushed w (.cells arr et) 0) R' := by
  let r : RB := ⟨true, some (w.heap.size, 0), cells.length, 1⟩
  have hG : ∀ X, Grow w X (pushed w (.cells arr et) 0) := fun _ => Grow.pushed _ _ rfl
  have hX : ∀ k, k < w.heap.size → ¬ Xof H R k → ¬ Xof (hset H id (.box cells)) (upR R id r) k := by
    rintro k hk hn (hF | ⟨j, c, q, o, hj, hl, hq, hb⟩)
    · exact hn (.inl hF)
    rw [hget_hset] at hj
    by_cases e : j = id
    · subst e; rw [upR_same] at hq; cases hq; cases hb; omega
    · rw [if_neg e] at hj; rw [upR_ne R r e] at hq; exact hn (.inr ⟨j, c, q, o, hj, hl, hq, hb⟩)
  have hB : BRel (pushed w (.cells arr et) 0) (Xof (hset H id (.box cells)) (upR R id r)) (upR R id r) r (.box cells) := by
    refine ⟨rfl, w.heap.size, 0, arr, et, rfl, pushed_new, by omega, fun j pv hj => ?_⟩
    obtain ⟨v, a1, a2, a3⟩ := hc j pv hj
    exact ⟨v, by simpa using a1, a2, a3.mono (hG _) hX (RExt.new (hH.dom id hid) r)⟩
  obtain ⟨q1, q2⟩ := hH.alloc hid r (.box cells) (hG _) (fun k hk => pushed_old hk) 0 rfl hB
  exact ⟨upR R id r, q1, RExt.new (hH.dom id hid) r, hG _, q2, .ptr _ id r w.heap.size 0 0 (upR_same R id r) rfl rfl⟩

theorem ok_box (hH : HRel w R H) (hE : ERel w R H env a.tmps) (hG : GlobOK cx gs w (Xof H R)) {o : Oper} {t : TypeId} {x : Operand} {x' : Opd} {id : Nat} {e : Eff}
    (ho : o.op = .box t x) (hx : mOpd gs x x' = true) (he : evOp cx env H (.box id x') = some e) : OpOK P o a w R H e := by
  have rx := opd_rep hE hG hx
  simp only [evOp] at he
  split at he <;> cases he
  rename_i cs hid hc
  obtain ⟨m1, m2⟩ := mcells_rep rx hc
  obtain ⟨R', hp⟩ := post_box hH hid (arr := (a.eval x).cells) (et := t) (by omega) m2
  exact OpOK.of_run (by simp [execOp, ho, Instr.box, newVar, newRow]; rfl) hp

theorem ok_alloc (hH : HRel w R H) {o : Oper} {t : TypeId} {id : Nat} {z : List PV} {i : TypeInfo} {v : Value} {e : Eff}
    (ho : o.op = .alloc t) (hi : P.info? t = some i) (hz : i.zero = some v) (hm : mConstL v.cells.toList z = true)
    (he : evOp cx env H (.alloc id z) = some e) : OpOK P o a w R H e := by
  simp only [evOp] at he
  split at he <;> cases he
  rename_i hid
  obtain ⟨hl, hh⟩ := mConstL_rep (w := w) (X := Xof H R) (R := R) hm
  obtain ⟨R', hp⟩ := post_box hH hid (cells := z) (arr := v.cells) (et := t) (by simp at hl; omega) (fun j pv hj => by
    have hjl : j < z.length := (List.getElem?_eq_some_iff.1 hj).1
    have hjv : j < v.cells.size := by simp at hl; omega
    obtain ⟨h1, h2⟩ := hh j pv v.cells[j] hj (by simp [hjv])
    exact ⟨_, by simp [hjv], h2, h1⟩)
  refine OpOK.of_run (v := .pointer (some ⟨w.heap.size, 0, none⟩)) ?_ hp
  simp [execOp, ho, Instr.alloc, zeroValue, typeInfo, hi, hz, newVar, newRow]
  rfl

/-- Rows of cells as they lie in memory. -/
def ArrAt (w : World) (X : Nat → Prop) (arr : Array Value) (sz : Nat) (rows : List (List PV)) : Prop :=
  rows.length * sz ≤ arr.size ∧ RowsAt w X arr 0 sz rows

theorem hget_congr_hset {H1 H2 : Heap} (h : ∀ i, hget H1 i = hget H2 i) (id : Nat) (b : Blk) (i : Nat) : hget (hset H1 id b) i = hget (hset H2 id b) i := by
  rw [hget_hset, hget_hset, h]
theorem hget_congr_hsets : ∀ (u : List (Nat × Blk)) {H1 H2 : Heap}, (∀ i, hget H1 i = hget H2 i) → ∀ i, hget (hsets u H1) i = hget (hsets u H2) i
  | [], _, _, h, i => h i
  | (j, c) :: u, _, _, h, i => hget_congr_hsets u (hget_congr_hset h j c) i
theorem hget_hsets_hset : ∀ (u : List (Nat × Blk)) {H : Heap} {id : Nat} {b : Blk}, (∀ p ∈ u, p.1 ≠ id) → ∀ i, hget (hsets u (hset H id b)) i = if i = id then some b else hget (hsets u H) i
  | [], H, id, b, _, i => hget_hset H id b i
  | (j, c) :: u, H, id, b, hu, i => by
    simp only [hsets]
    have hj : j ≠ id := hu (j, c) (.head _)
    rw [← hget_hsets_hset u (fun p hp => hu p (.tail _ hp)) i]
    refine hget_congr_hsets u (fun l => ?_) i
    rw [hget_hset, hget_hset, hget_hset, hget_hset]
    by_cases e1 : l = j
    · subst e1; rw [if_pos rfl, if_neg hj, if_pos rfl]
    · by_cases e2 : l = id
      · rw [if_neg e1, if_pos e2, if_pos e2]
      · rw [if_neg e1, if_neg e2, if_neg e2, if_neg e1]

theorem Xof_congr {H1 H2 : Heap} (h : ∀ i, hget H1 i = hget H2 i) (k : Nat) : Xof H1 R k ↔ Xof H2 R k := by
  constructor
  · rintro (hF | ⟨i, b, r, o, hi, rest⟩)
    · exact .inl hF
    · exact .inr ⟨i, b, r, o, by rw [← h]; exact hi, rest⟩
  · rintro (hF | ⟨i, b, r, o, hi, rest⟩)
    · exact .inl hF
    · exact .inr ⟨i, b, r, o, by rw [h]; exact hi, rest⟩
theorem HRel.congr {H1 H2 : Heap} (hH : HRel w R H1) (h : ∀ i, hget H1 i = hget H2 i) : HRel w R H2 := by
  refine ⟨hH.flt, fun i b r k o hi => hH.off i b r k o (by rw [h]; exact hi), fun i hi => hH.dom i (by rw [h]; exact hi), fun i b hi => ?_, fun i i' b b' r r' k o o' hi hi' => hH.inj i i' b b' r r' k o o' (by rw [h]; exact hi) (by rw [h]; exact hi')⟩
  obtain ⟨r, h1, h2⟩ := hH.has i b (by rw [h]; exact hi)
  exact ⟨r, h1, h2.mono (Grow.refl w _) (fun k _ hn hx => hn ((Xof_congr h k).2 hx)) (RExt.refl R) (fun _ _ _ => rfl)⟩

/-- In a heap in which some blocks are frozen, nobody who may be written lies where they lie. -/
theorem shown_frozen {R : Refs} {H1 : Heap} {X' : Nat → Prop} {ids : List Nat} (h1 : HRel w R H1) (hsub : ∀ k, X' k → Xof H R k ∨ w.heap.size ≤ k)
    (hX : ∀ k, k < w.heap.size → X' k → Xof H1 R k) (hf : ∀ i ∈ ids, ∃ z rows, hget H1 i = some (.froz z rows)) : Shown w R H X' ids := by
  refine ⟨hsub, fun i hi r k o hr hk hx => ?_⟩
  obtain ⟨z, rows, e2⟩ := hf i hi
  have hlt : k < w.heap.size := h1.lt e2 rfl hr hk
  rcases hX k hlt hx with hF | ⟨j, c, q, o', hj, hl, hq, hb⟩
  · exact h1.off i _ r k o e2 rfl hr hk hF
  have : i = j := h1.inj i j _ c r q k o o' e2 hj rfl (live_dead hl) hr hq hk hb
  subst this
  rw [hj] at e2; cases e2; cases hl

/-- A new slice of the call's own, of plain rows; what was shown in making it is written no more. -/
theorem post_arr (hH : HRel w R H) {id : Nat} (hid : hget H id = none) {rows : List (List PV)} {arr : Array Value} {et : TypeId} {sz n c : Nat} {ids : List Nat} {fr : List (Nat × Blk)} {rd : List Nat}
    (hfr : frees H ids = some fr) (hc : rows.length ≤ c) (hcap : c * sz ≤ arr.size)
    (hrows : ∀ X' : Nat → Prop, Shown w R H X' ids → RowsAt w X' arr 0 sz rows) :
    ∃ R', Post w R H ⟨.own id 0 rows.length rows.length, (id, .arr sz rows) :: fr, rd⟩ (.slice (some ⟨w.heap.size, 0, none⟩) rows.length c) (pushed w (.cells arr et) n) R' := by
  let r : RB := ⟨false, some (w.heap.size, 0), sz, rows.length⟩
  have hRid : R id = none := hH.dom id hid
  have hk := frees_keys hfr
  obtain ⟨f1, f2, f3, f4, f5⟩ := hH.freezeAll (u := fr) (fun p hp => by obtain ⟨z', rows', e1, e2⟩ := hk p hp; exact ⟨z', rows', e1, .inl e2⟩)
  have hidf : ∀ p ∈ fr, p.1 ≠ id := by
    intro p hp e
    obtain ⟨_, rows', _, e2⟩ := hk p hp
    rw [e, hid] at e2; cases e2
  have hid' : hget (hsets fr H) id = none := by rw [f4 id hidf]; exact hid
  have hfz : ∀ i ∈ ids, ∃ z rows, hget (hsets fr H) i = some (.froz z rows) := by
    intro i hi
    obtain ⟨z', rows', h1 | h1⟩ := frees_all hfr i hi
    · exact ⟨z', rows', f3 _ h1.2⟩
    · exact ⟨z', rows', f5 i z' rows' h1⟩
  have hX1 : ∀ k, Xof (hset (hsets fr H) id (.arr sz rows)) (upR R id r) k → Xof (hsets fr H) R k ∨ k = w.heap.size := by
    rintro k (hF | ⟨j, c, q, o, hj, hl, hq, hb⟩)
    · exact .inl (.inl hF)
    rw [hget_hset] at hj
    by_cases e : j = id
    · subst e; rw [upR_same] at hq; cases hq; cases hb; exact .inr rfl
    · rw [if_neg e] at hj; rw [upR_ne R r e] at hq; exact .inl (.inr ⟨j, c, q, o, hj, hl, hq, hb⟩)
  have hSh : Shown w R H (Xof (hset (hsets fr H) id (.arr sz rows)) (upR R id r)) ids :=
    shown_frozen f1 (fun k hk => by rcases hX1 k hk with h | h; exact .inl (f2 k h); exact .inr (by omega))
      (fun k hlt hk => by rcases hX1 k hk with h | h; exact h; omega) hfz
  have hra := hrows _ hSh
  have hG : ∀ X, Grow w X (pushed w (.cells arr et) n) := fun X => Grow.pushed _ _ rfl
  have hB : BRel (pushed w (.cells arr et) n) (Xof (hset (hsets fr H) id (.arr sz rows)) (upR R id r)) (upR R id r) r (.arr sz rows) := by
    refine ⟨rfl, rfl, rfl, .inr ⟨w.heap.size, 0, arr, et, rfl, pushed_new, ?_, hra.mono (hG _) (fun _ _ h => h)⟩⟩
    have := Nat.mul_le_mul_right sz hc
    show 0 + rows.length * sz ≤ _
    omega
  obtain ⟨q1, q2⟩ := f1.alloc hid' r (.arr sz rows) (hG _) (fun k hk => pushed_old hk) 0 rfl hB
  have hcong : ∀ i, hget (hset (hsets fr H) id (.arr sz rows)) i = hget (hsets ((id, .arr sz rows) :: fr) H) i := by
    intro i
    simp only [hsets]
    rw [hget_hsets_hset fr hidf i, hget_hset]
  refine ⟨upR R id r, q1.congr hcong, RExt.new hRid r, hG _, fun k hlt hn hx => ?_, ?_⟩
  · have hx := (Xof_congr hcong k).2 hx
    rcases hX1 k hx with h | h
    · exact hn (f2 k h)
    · omega
  · have hz : rows.length ≤ 0 + c := by omega
    have := Rep.own (w := pushed w (.cells arr et) n) (X := Xof (hsets ((id, .arr sz rows) :: fr) H) (upR R id r)) (upR R id r) id r w.heap.size 0 0 rows.length rows.length c arr et (0, 0)
      (upR_same R id r) rfl rfl rfl (by omega) hc hz pushed_new (by simpa using hcap)
    simpa using this

/-- A new slice that nothing else leads to. -/
theorem post_arr0 (hH : HRel w R H) {id : Nat} (hid : hget H id = none) {rows : List (List PV)} {arr : Array Value} {et : TypeId} {sz n c : Nat} {rd : List Nat}
    (hc : rows.length ≤ c) (hcap : c * sz ≤ arr.size)
    (hrows : ∀ X' : Nat → Prop, Shown w R H X' [] → RowsAt w X' arr 0 sz rows) :
    ∃ R', Post w R H ⟨.own id 0 rows.length rows.length, [(id, .arr sz rows)], rd⟩ (.slice (some ⟨w.heap.size, 0, none⟩) rows.length c) (pushed w (.cells arr et) n) R' :=
  post_arr (ids := []) (fr := []) hH hid rfl hc hcap hrows

theorem zeros_get {zero : Array Value} {n i : Nat} (hz : 0 < zero.size) (hi : i < n) : ((Array.range n).map (zero[· % zero.size]!))[i]? = zero[i % zero.size]? := by
  have : i % zero.size < zero.size := Nat.mod_lt _ hz
  simp [hi, this]

theorem ok_mksl (hH : HRel w R H) (hE : ERel w R H env a.tmps) (hG : GlobOK cx gs w (Xof H R)) {o : Oper} {t el : TypeId} {l c : Operand} {l' c' : Opd} {id : Nat} {z : List PV} {i : TypeInfo} {v : Value} {e : Eff}
    (ho : o.op = .makeSlice t l c) (ht : P.underlying t = some (.slice el)) (hi : P.info? el = some i) (hz : i.zero = some v) (hm : mConstL v.cells.toList z = true) (hs : i.size = z.length) (hs0 : z ≠ []) (hb0 : 0 < i.bytes)
    (hl : mOpd gs l l' = true) (hc : mOpd gs c c' = true)
    (he : evOp cx env H (.mksl id i.bytes z l' c') = some e) : OpOK P o a w R H e := by
  have rl := opd_rep hE hG hl
  have rc := opd_rep hE hG hc
  simp only [evOp] at he
  split at he <;> first | (cases he; done) | skip
  rename_i n m hln hcm hid
  rw [hln] at rl; rw [hcm] at rc
  generalize hvl : a.eval l = vl at rl
  generalize hvc : a.eval c = vc at rc
  cases rl; cases rc
  have ho' : execOp a.eval o = .value <$> Instr.makeSlice t (.int .i64 n) (.int .i64 m) := by simp [execOp, ho, hvl, hvc]
  split at he
  case isFalse =>
    split at he <;> first | (cases he; done) | skip
    rename_i hm0
    split at he <;> cases he
    rename_i hn0
    subst hm0; subst hn0
    have hr := run_make (P := P) w t el i v ht hi hz .i64 .i64 0 0 (by omega) (by omega) (by omega) (by omega)
    have hpu : ∀ o : Obj, openO o = true → Post w R H ⟨.nul, [], [id]⟩ (.slice (some ⟨w.heap.size, 0, none⟩) 0 0) (pushed w o 0) R := by
      intro ob hob
      have hG' : ∀ X, Grow w X (pushed w ob 0) := fun X => Grow.pushed _ _ hob
      refine ⟨hH.change (hG' _) (RExt.refl R) (fun k _ hn => hn) (fun i h => hH.dom i h) (fun i b hb => .inl ⟨hb, rfl, ?_⟩) (fun i i' b b' r r' k o o' => hH.inj i i' b b' r r' k o o') hH.off, RExt.refl R, hG' _, fun k _ hn => hn, .nul _ _⟩
      cases hd : deadB b with
      | true => exact .inl rfl
      | false => exact .inr fun r k o hr hk => pushed_old (hH.lt hb hd hr hk)
    refine OpOK.of_run (v := .slice (some ⟨w.heap.size, 0, none⟩) 0 0) ?_ (hpu (.cells (madeCells v.cells 0) el) rfl)
    rw [ho']
    simp [hr]
    rfl
  rename_i h0
  split at he <;> first | (cases he; done) | skip
  rename_i h1
  split at he <;> cases he
  rename_i h2
  obtain ⟨hcl, hcc⟩ := mConstL_rep (w := w) (X := fun _ => True) (R := noRefs) hm
  have hzs : v.cells.size = z.length := by simpa using hcl
  have hz0 : 0 < z.length := List.length_pos_iff.2 hs0
  have hmn : (i.bytes : Int) * m ≤ 281474976710656 := by
    have : m * (i.bytes : Int) = (i.bytes : Int) * m := Int.mul_comm _ _
    omega
  have h63 : m ≤ 9223372036854775807 := by
    have : m * 1 ≤ m * (i.bytes : Int) := Int.mul_le_mul_of_nonneg_left (by omega) (by omega)
    omega
  have hr := run_make (P := P) w t el i v ht hi hz .i64 .i64 n m (by omega) h1 hmn h63
  have hrows : ∀ X' : Nat → Prop, Shown w R H X' [] → RowsAt w X' (madeCells v.cells (m.toNat * i.size)) 0 z.length (List.replicate n.toNat z) := by
    intro X' _
    refine ⟨fun k row hk => ?_, fun k row j pv hk hj => ?_⟩
    · rw [List.getElem?_replicate] at hk
      split at hk <;> cases hk
      rfl
    · rw [List.getElem?_replicate] at hk
      split at hk <;> cases hk
      rename_i hkl
      have hjl : j < z.length := (List.getElem?_eq_some_iff.1 hj).1
      obtain ⟨_, hcc'⟩ := mConstL_rep (w := w) (X := X') (R := noRefs) hm
      have hjv : j < v.cells.size := by omega
      obtain ⟨c1, c2⟩ := hcc' j pv v.cells[j] hj (by simp [hjv])
      refine ⟨_, ?_, c2, c1⟩
      have hk1 : (k + 1) * z.length ≤ m.toNat * z.length := Nat.mul_le_mul_right _ (by omega)
      rw [Nat.add_mul] at hk1
      rw [madeCells, hs, zeros_get (by omega) (by omega), Nat.zero_add, hzs, Nat.mul_comm k, Nat.mul_add_mod, Nat.mod_eq_of_lt hjl]
      simp [hjv]
  obtain ⟨R', hp⟩ := post_arr0 (w := w) (R := R) (rd := []) (n := 0) (et := el) (sz := z.length) (c := m.toNat) (rows := List.replicate n.toNat z) (arr := madeCells v.cells (m.toNat * i.size)) hH hid
    (by simp; omega) (by rw [size_madeCells, hs]; exact Nat.le_refl _) hrows
  refine OpOK.of_run (v := .slice (some ⟨w.heap.size, 0, none⟩) n.toNat m.toNat) ?_ (by simpa using hp)
  rw [ho']
  simp [hr]
  rfl

end

end Go.Ev

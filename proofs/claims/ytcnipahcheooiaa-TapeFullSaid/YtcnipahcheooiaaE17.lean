/-
  'clear', the store to an element, the walk over a text.
-/
import Derived.Test.YtcnipahcheooiaaE16
import Derived.Laws.RangeString
namespace Go.Ev
open Go
set_option linter.unusedSectionVars false
set_option linter.unusedSimpArgs false
set_option linter.unusedVariables false
variable [Frame]

section
variable {P : Program} {cx : Cx} {gs : List Nat} {w : World} {R : Refs} {H : Heap} {env : Env} {a : Act}

theorem zeroCells_rows {X : Nat → Prop} {v : Array Value} {z : List PV} (hm : mConstL v.toList z = true) (n : Nat) :
    (Builtin.zeroCells v n).size = n * z.length ∧ RowsAt w X (Builtin.zeroCells v n) 0 z.length (List.replicate n z) := by
  have hc := mConstL_cells (w := w) (X := X) (R := noRefs) hm
  have hzs : v.size = z.length := hc.1.symm
  refine ⟨by rw [size_zeroCells, hzs], fun k row hk => ?_, fun k row j pv hk hj => ?_⟩
  · rw [List.getElem?_replicate] at hk
    split at hk <;> cases hk
    rfl
  · rw [List.getElem?_replicate] at hk
    split at hk <;> cases hk
    rename_i hkl
    have hjl : j < z.length := (List.getElem?_eq_some_iff.1 hj).1
    obtain ⟨u, u1, u2, u3⟩ := hc.2 j pv hj
    refine ⟨u, ?_, u2, u3⟩
    have hk1 : (k + 1) * z.length ≤ n * z.length := Nat.mul_le_mul_right _ (by omega)
    rw [Nat.add_mul] at hk1
    have := zeros_get (zero := v) (n := n * v.size) (i := 0 + k * z.length + j) (by omega) (by rw [hzs]; omega)
    unfold Builtin.zeroCells
    rw [this, Nat.zero_add, hzs, Nat.mul_comm k, Nat.mul_add_mod, Nat.mod_eq_of_lt hjl]
    exact u1

theorem ok_clear (hH : HRel w R H) (hE : ERel w R H env a.tmps) (hG : GlobOK cx gs w (Xof H R)) {o : Oper} {c : Call} {x : Operand} {t el : TypeId} {x' : Opd} {esz : Nat} {z : List PV} {i : TypeInfo} {v : Value} {e : Eff}
    (ho : o.op = .call c) (hb : c.callee = .builtin .clear) (ha : c.args = #[x]) (h0 : c.argTypes[0]? = some t) (ht : P.underlying t = some (.slice el)) (hi : P.info? el = some i) (hz : i.zero = some v)
    (hm : mConstL v.cells.toList z = true) (hx : mOpd gs x x' = true) (he : evOp cx env H (.clear esz z x') = some e) : OpOK P o a w R H e := by
  have rx := opd_rep hE hG hx
  simp only [evOp] at he
  generalize opd cx env x' = px at rx he
  generalize hvx : a.eval x = vx at rx
  have hrun : ∀ {r : Value} {w' : World}, (Builtin.clear_ c.argTypes o.type #[vx]).run P w = .ok r w' → (execOp a.eval o).run P w = .ok (.value r) w' := by
    intro r w' h
    rw [run_builtin ho hb]
    simp [ha, hvx, builtin, h]
  have none_ : ∀ {ad : Option Addr} {c' : Nat}, vx = .slice ad 0 c' → (Builtin.clear_ c.argTypes o.type #[vx]).run P w = .ok (.tuple #[]) w := by
    rintro ad c' rfl
    cases ad <;> simp [Builtin.clear_, h0, run_underlying ht]
  have rt : ∀ {w' : World} {X : Nat → Prop} {R : Refs}, Rep w' X R (.tuple []) (.tuple #[]) := .tuple _ [] #[] rfl (fun i pv v hp => by simp at hp)
  split at he
  · cases he
    cases rx with
    | nul _ ad => exact OpOK.pure hH (hrun (none_ rfl)) rt
  · rename_i b off len cl
    split at he <;> first | (cases he; done) | skip
    rename_i sz rows hg
    split at he <;> cases he
    rename_i hchk
    simp only [Bool.and_eq_true] at hchk
    obtain ⟨⟨k1, k2⟩, k3⟩ := hchk
    have hcl := nbeq_iff.1 k1
    have hsz := nbeq_iff.1 k2
    have hzl := nbeq_iff.1 k3
    subst hsz
    have hvo : validO H b cl = true := by unfold validO; rw [hg]; exact k1
    obtain ⟨r, hr, hrcl, hbx, hcase⟩ := own_real hH hvo rx
    have hsame0 : len = 0 → rows.take off ++ List.replicate len z ++ rows.drop (off + len) = rows := by rintro rfl; simp
    by_cases hl0 : len = 0
    · have : ∃ ad c', vx = .slice ad 0 c' := by
        obtain ⟨ad, c', h⟩ := own_len hH hvo rx
        exact ⟨ad, c', by rw [h, hl0]⟩
      obtain ⟨ad, c', hv⟩ := this
      have hp : OpOK P o a w R H ⟨.tuple [], [], []⟩ := OpOK.pure hH (hrun (none_ hv)) rt
      rw [hsame0 hl0]
      exact hp.congr fun j => (hget_hset_self hg j).symm
    · rcases hcase with ⟨k, base, c', cs, et, fr, hk, b1, b2, b3, hw, b4, rfl⟩ | ⟨rfl, rfl, ad, rfl⟩
      · obtain ⟨a1, a2, a3, cs', et', hw', a4, a5⟩ := arr_real hH hg hr hk
        rw [hw] at hw'; cases hw'
        obtain ⟨s1, s2⟩ := zeroCells_rows (w := w) (X := Xof H R) hm len
        rw [hzl] at s1 s2
        have hb' : base + (off + (List.replicate len z).length) * sz ≤ cs.size := by
          rw [List.length_replicate]
          have := Nat.mul_le_mul_right sz (show off + len ≤ rows.length by omega)
          omega
        have hrows := putRow_rows a5 s2 (by rw [List.length_replicate]; exact s1) (p := off) (by omega) hb'
        have hone := s2.ones (by rw [List.length_replicate]; exact s1)
        rw [List.length_replicate] at hrows hb'
        have hfits : base + off * sz + (Builtin.zeroCells v.cells len).toList.length ≤ cs.size := by
          rw [Nat.add_mul off] at hb'
          simp only [Array.length_toList, s1]; omega
        have hpl : (rows.take off ++ List.replicate len z ++ rows.drop (off + len)).length = rows.length := by
          have := take_mid (rows := rows) (new := List.replicate len z) (p := off) (by omega) (by rw [List.length_replicate]; omega)
          rwa [List.length_replicate] at this
        obtain ⟨q1, q2, q3, q4⟩ := arr_write hH hg hr hk hw (cur' := putRow cs (base + off * sz) (Builtin.zeroCells v.cells len).toList) (putRow_size hfits) (by rw [hpl]; exact Nat.le_refl _) (by rw [hpl]; exact a4) hrows
        have hst := run_storeCells_at (P := P) k (base + off * sz) et (Builtin.zeroCells v.cells len).toList 0 cs w hw (by omega) hone
        simp only [Nat.add_zero] at hst
        refine OpOK.of_run (hrun (r := .tuple #[]) (w' := w.setRow k (putRow cs (base + off * sz) (Builtin.zeroCells v.cells len).toList)) ?_) ⟨q1, q2, q3, q4, rt⟩
        cases len with
        | zero => exact absurd rfl hl0
        | succ len =>
          simp only [a3]
          simp [Builtin.clear_, h0, run_underlying ht, zeroValue, typeInfo, hi, hz, hst, putRow]
      · exact absurd rfl hl0
  · cases he

theorem frees_in : ∀ {ids : List Nat} {u : List (Nat × Blk)}, frees H ids = some u → ∀ p ∈ u, p.1 ∈ ids
  | [], u, h, p, hp => by simp [frees] at h; subst h; cases hp
  | i :: r, u, h, p, hp => by
    simp only [frees] at h
    split at h <;> first | (cases h; done) | skip
    · rename_i sz rows u' hi hr
      cases h
      cases hp with
      | head => exact .head _
      | tail _ hp => exact .tail _ (frees_in hr p hp)
    · rename_i sz rows u' hi hr
      cases h
      exact .tail _ (frees_in hr p hp)

theorem putRow_elt {X : Nat → Prop} {cur arr : Array Value} {base sz i j : Nat} {rows : List (List PV)} {row cs : List PV} (h : RowsAt w X cur base sz rows) (hi : rows[i]? = some row) (hc : CellsAt w X noRefs cs arr)
    (hj : j + cs.length ≤ row.length) (hb : base + rows.length * sz ≤ cur.size) :
    base + i * sz + j + arr.toList.length ≤ cur.size ∧ RowsAt w X (putRow cur (base + i * sz + j) arr.toList) base sz (rows.set i (splice row j cs)) := by
  have hil : i < rows.length := (List.getElem?_eq_some_iff.1 hi).1
  have hrl : row.length = sz := h.1 i row hi
  have h1 := Nat.mul_le_mul_right sz (show i + 1 ≤ rows.length by omega)
  rw [Nat.add_mul] at h1
  have hfit : base + i * sz + j + arr.toList.length ≤ cur.size := by
    have := hc.1
    simp; omega
  refine ⟨hfit, fun q rw' hq => ?_, fun q rw' p pv hq hp => ?_⟩
  · rw [List.getElem?_set] at hq
    split at hq
    · cases hq
      rw [splice_len hj]; exact hrl
    · exact h.1 q rw' hq
  · rw [putRow_get hfit]
    simp only [Array.length_toList, ← hc.1]
    rw [List.getElem?_set] at hq
    split at hq
    · rename_i e
      subst e
      cases hq
      rw [splice_get p hj] at hp
      by_cases hin : j ≤ p ∧ p < j + cs.length
      · rw [if_pos hin] at hp
        obtain ⟨u, u1, u2, u3⟩ := hc.2 _ pv hp
        refine ⟨u, ?_, u2, u3⟩
        rw [if_pos (by omega), show base + i * sz + p - (base + i * sz + j) = p - j by omega]
        simpa using u1
      · rw [if_neg hin] at hp
        obtain ⟨u, u1, u2, u3⟩ := h.2 i row p pv hi hp
        refine ⟨u, ?_, u2, u3⟩
        rw [if_neg (by omega)]
        exact u1
    · rename_i hne
      obtain ⟨u, u1, u2, u3⟩ := h.2 q rw' p pv hq hp
      refine ⟨u, ?_, u2, u3⟩
      have hpl : p < sz := by rw [← h.1 q rw' hq]; exact (List.getElem?_eq_some_iff.1 hp).1
      rw [if_neg ?_]
      · exact u1
      · rintro ⟨c1, c2⟩
        rcases Nat.lt_or_ge q i with hlt | hge
        · have := Nat.mul_le_mul_right sz (show q + 1 ≤ i by omega)
          rw [Nat.add_mul] at this; omega
        · have := Nat.mul_le_mul_right sz (show i + 1 ≤ q by omega)
          rw [Nat.add_mul] at this; omega

theorem ok_store (hH : HRel w R H) (hE : ERel w R H env a.tmps) (hG : GlobOK cx gs w (Xof H R)) {o : Oper} {t : TypeId} {x y : Operand} {x' y' : Opd} {sz : Nat} {e : Eff}
    (ho : o.op = .store t x y) (hsz : tySize P t = some sz) (hx : mOpd gs x x' = true) (hy : mOpd gs y y' = true) (hdst : o.dst = none)
    (he : evOp cx env H (.store sz x' y') = some e) : OpOK P o a w R H e := by
  simp only [evOp] at he
  split at he
  · rename_i id j hp
    split at he <;> first | (cases he; done) | skip
    rename_i cells hg
    split at he <;> first | (cases he; done) | skip
    rename_i cs hc
    split at he <;> cases he
    rename_i b1 b2
    obtain ⟨w', R', h1, h2⟩ := ok_storeBox hH hE hG ho hsz hx hy hdst hp hg hc (nbeq_iff.1 b1) (Nat.le_of_ble_eq_true b2)
    exact OpOK.of_skip h1 h2
  · rename_i id i j cl hp
    split at he <;> first | (cases he; done) | skip
    rename_i esz rows hg
    split at he <;> first | (cases he; done) | skip
    rename_i row cs ids hcl hrow hro
    split at he <;> cases he
    rename_i fr hfr hm b1 b2
    have hcl := nbeq_iff.1 hcl
    have hcs := nbeq_iff.1 b1
    have hjl := Nat.le_of_ble_eq_true b2
    have rx := opd_rep hE hG hx
    have ry := opd_rep hE hG hy
    rw [hp] at rx
    generalize hv : a.eval x = v at rx
    obtain ⟨m1, m2⟩ := rowOf_rep hH hro ry
    have hk := frees_keys hfr
    obtain ⟨f1, f2, f3, f4, f5⟩ := hH.freezeAll (u := fr) (fun p hp => by obtain ⟨z', rows', e1, e2⟩ := hk p hp; exact ⟨z', rows', e1, .inl e2⟩)
    have f2' : ∀ k, Own (hsets fr H) R k → Own H R k := fun k hk => (f2 k (.inr hk)).resolve_left (by
      obtain ⟨i, b, r, o, h1, h2, h3, h4⟩ := hk
      exact f1.off i b r k o h1 (live_dead h2) h3 h4)
    have hidf : ∀ p ∈ fr, p.1 ≠ id := fun p hp e => memN_false hm (by rw [← e]; exact frees_in hfr p hp)
    have hg1 : hget (hsets fr H) id = some (.arr esz rows) := by rw [f4 id hidf]; exact hg
    have hfz : ∀ i ∈ ids, ∃ z rows, hget (hsets fr H) i = some (.froz z rows) := by
      intro i hi
      obtain ⟨z', rows', h1 | h1⟩ := frees_all hfr i hi
      · exact ⟨z', rows', f3 _ h1.2⟩
      · exact ⟨z', rows', f5 i z' rows' h1⟩
    have hca := m2 (Xof (hsets fr H) R) (shown_frozen f1 (fun k hk => .inl (f2 k hk)) (fun k _ hk => hk) hfz)
    cases rx with
    | eptr _ _ b k base _ _ _ hr hb hbl hbk =>
      obtain ⟨a1, a2, a3, cur, et, hw, a4, a5⟩ := arr_real f1 hg1 hr hbk
      obtain ⟨hfit, hrows⟩ := putRow_elt (j := j) a5 hrow hca (by omega) a4
      have hone : ∀ u ∈ (a.eval y).cells.toList, u.oneCell' = true := by
        intro u hu
        obtain ⟨q, hq, rfl⟩ := List.getElem_of_mem hu
        simp at hq
        obtain ⟨u', q1, q2, _⟩ := hca.2 q cs[q] (List.getElem?_eq_getElem (by omega))
        rw [Array.getElem?_eq_getElem hq] at q1
        cases q1
        simpa using q2
      have hst := run_storeVar_at (P := P) (k := k) (off := base + i * esz + j) (t := t) (v := a.eval y) hw hsz (by omega) (by rw [Array.length_toList, m1, hcs] at hfit; exact hfit) hone
      have hrun : (execOp a.eval o).run P w = .ok .skip (w.setRow k (putRow cur (base + i * esz + j) (a.eval y).cells.toList)) := by
        rw [a3] at hv
        simp [execOp, ho, hv, Instr.storeAt, Instr.sureAddr, hst]
      have hsl : (rows.set i (splice row j cs)).length = rows.length := by simp
      obtain ⟨q1, q2, q3, q4⟩ := arr_write f1 hg1 hr hbk hw (cur' := putRow cur (base + i * esz + j) (a.eval y).cells.toList) (putRow_size hfit) (by rw [hsl]; exact Nat.le_refl _) (by rw [hsl]; exact a4) hrows
      have hcong : ∀ q, hget (hset (hsets fr H) id (.arr esz (rows.set i (splice row j cs)))) q = hget (hsets ((id, .arr esz (rows.set i (splice row j cs))) :: fr) H) q := by
        intro q
        simp only [hsets]
        rw [hget_hsets_hset fr hidf q, hget_hset]
      refine OpOK.of_skip hrun ⟨q1.congr hcong, q2, q3.mono f2', fun k hk hn hx => q4 k hk (fun h => hn (f2 k h)) ((Xof_congr hcong k).2 hx), .undef _⟩
    | eptrS _ _ b _ _ _ _ hr hb hbl h1 =>
      obtain ⟨r', q1, _, q2, _⟩ := hH.has id _ hg
      rw [hr] at q1; cases q1
      omega
  · cases he

theorem ok_rng (hH : HRel w R H) (hE : ERel w R H env a.tmps) (hG : GlobOK cx gs w (Xof H R)) {o : Oper} {t : TypeId} {x : Operand} {x' : Opd} {id : Nat} {e : Eff}
    (ho : o.op = .range t x) (ht : P.underlying t = some .string) (hx : mOpd gs x x' = true) (he : evOp cx env H (.rng id x') = some e) : OpOK P o a w R H e := by
  have rx := opd_rep hE hG hx
  simp only [evOp] at he
  generalize opd cx env x' = px at rx he
  generalize hvx : a.eval x = vx at rx
  split at he <;> cases he
  rename_i s hid
  cases rx with
  | str _ _ =>
    let r : RB := ⟨true, some (w.heap.size, 0), 0, 1⟩
    have hG' : ∀ X, Grow w X (pushed w (.stringIter ⟨s.toArray⟩ 0) 0) := fun X => Grow.pushed _ _ rfl
    obtain ⟨q1, q2⟩ := hH.alloc hid r (.iter s 0) (hG' _) (fun k hk => pushed_old hk) 0 rfl ⟨rfl, w.heap.size, rfl, pushed_new⟩
    refine OpOK.of_run (v := .pointer (some ⟨w.heap.size, 0, none⟩)) (w' := pushed w (.stringIter ⟨s.toArray⟩ 0) 0) ?_ ⟨q1, RExt.new (hH.dom id hid) r, hG' _, q2, .ptr _ id r w.heap.size 0 0 (upR_same R id r) rfl rfl⟩
    have := run_range_string (P := P) w t ⟨s.toArray⟩ ht
    simp [execOp, ho, hvx, this]
    rfl

/-- The world with another object in a block. -/
def putObj (w : World) (k : Nat) (o : Obj) : World := { w with heap := w.heap.setIfInBounds k o }

theorem ok_nxt (hH : HRel w R H) (hE : ERel w R H env a.tmps) (hG : GlobOK cx gs w (Xof H R)) {o : Oper} {x : Operand} {x' : Opd} {e : Eff}
    (ho : o.op = .next x true) (hx : mOpd gs x x' = true) (he : evOp cx env H (.nxt x') = some e) : OpOK P o a w R H e := by
  have rx := opd_rep hE hG hx
  simp only [evOp] at he
  generalize opd cx env x' = px at rx he
  generalize hvx : a.eval x = vx at rx
  split at he <;> first | (cases he; done) | skip
  rename_i id
  split at he <;> first | (cases he; done) | skip
  rename_i s pos hg
  cases rx with
  | ptr _ _ b k base _ hr hb hbk =>
    obtain ⟨r', q1, _, k', q2, hw⟩ := hH.has id _ hg
    rw [hr] at q1; cases q1
    rw [hbk] at q2; cases q2
    have hkl : k < w.heap.size := (Array.getElem?_eq_some_iff.1 hw).1
    have hXk : Own H R k := Xof_live hg rfl hr hbk
    have hsz : (⟨s.toArray⟩ : ByteArray).size = s.length := by simp [ByteArray.size]
    split at he <;> cases he
    · rename_i hlt
      let w' := putObj w k (.stringIter ⟨s.toArray⟩ (pos + (Utf8.decode ⟨s.toArray⟩ pos).2))
      have hnew : w'.heap[k]? = some (.stringIter ⟨s.toArray⟩ (pos + (Utf8.decode ⟨s.toArray⟩ pos).2)) := by simp [w', putObj, hkl]
      have hold : ∀ j, j ≠ k → w'.heap[j]? = w.heap[j]? := fun j hj => by simp [w', putObj, Ne.symm hj]
      have hG' : Grow w (Own H R) w' := by
        refine ⟨by simp [w', putObj], fun j hj hn => hold j fun e => hn (by rw [e]; exact hXk), fun j cs et fr hc => ?_, rfl, rfl, rfl, fun a => ?_⟩
        · by_cases e : j = k
          · subst e; rw [hw] at hc; cases hc
          · exact ⟨cs, (hold j e).trans hc, rfl⟩
        · unfold World.frozen?
          by_cases e : a.block = k
          · rw [e, hnew, hw]
          · rw [hold _ e]
      obtain ⟨q1, q2, q3⟩ := hH.write (w' := w') (b := .iter s (pos + (Utf8.decode ⟨s.toArray⟩ pos).2)) (r' := b) hg hr rfl hG'.weak
        (fun j _ hj => hold j fun e => hj 0 (by rw [e]; exact hbk)) (fun k' o h' => .inl ⟨o, h'⟩) (.inl rfl) ⟨hb, k, hbk, hnew⟩
      refine OpOK.of_run (v := .tuple #[.bool true, .int .i64 pos, .int .i32 (Utf8.decode ⟨s.toArray⟩ pos).1]) (w' := w') ?_ ⟨q1, q2, hG', q3, ?_⟩
      · simp [execOp, ho, hvx, Instr.next, getObj, setObj, Sem.run, hw, hsz, hlt, goInt, w', putObj]
      · refine .tuple _ _ _ rfl fun i pv v h1 h2 => ?_
        match i with
        | 0 => simp at h1 h2; subst h1 h2; exact .bool _ _
        | 1 => simp at h1 h2; subst h1 h2; exact .int _ _ _
        | 2 => simp at h1 h2; subst h1 h2; exact .int _ _ _
        | n + 3 => simp at h1
    · rename_i hge
      refine OpOK.pure hH (v := .tuple #[.bool false]) ?_ ?_
      · simp [execOp, ho, hvx, Instr.next, getObj, Sem.run, hw, hsz, hge]
      · refine .tuple _ _ _ rfl fun i pv v h1 h2 => ?_
        match i with
        | 0 => simp at h1 h2; subst h1 h2; exact .bool _ _
        | n + 1 => simp at h1

end

end Go.Ev

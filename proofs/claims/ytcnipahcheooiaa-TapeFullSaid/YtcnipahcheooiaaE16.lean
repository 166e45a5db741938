/-
  'append', 'copy', 'clear'.
-/
import Derived.Test.YtcnipahcheooiaaE15
namespace Go.Ev
open Go
set_option linter.unusedSectionVars false
set_option linter.unusedSimpArgs false
set_option linter.unusedVariables false
variable [Frame]

section
variable {P : Program} {cx : Cx} {gs : List Nat} {w : World} {R : Refs} {H : Heap} {env : Env} {a : Act}

theorem run_app_in {tys : Array TypeId} {ty t u el : TypeId} {el2 : TypeId} {i : TypeInfo} {base : Option Addr} {len c n : Nat} {x : Value} {arr : Array Value}
    (h0 : tys[0]? = some t) (ht : P.underlying t = some (.slice el)) (hi : P.info? el = some i) (h1 : tys[1]? = some u) (hu : P.underlying u = some (.slice el2) ∨ P.underlying u = some .string)
    (hlen : (Builtin.lenOf x).run P w = .ok n w) (hfirst : (Builtin.firstCells i.size n x).run P w = .ok arr w) (hfit : len + n ≤ c) :
    (Builtin.append_ tys ty #[.slice base len c, x]).run P w =
      match base with
      | none => .ok (.slice none (len + n) c) w
      | some ad => ((storeCells (ad.add (len * i.size)) arr.toList).run P w).andThen fun _ w' => .ok (.slice (some ad) (len + n) c) w' := by
  rcases hu with hu | hu <;> cases base <;> simp [Builtin.append_, h0, h1, run_underlying ht, run_underlying hu, sizeOf, typeInfo, hi, hlen, hfirst, hfit]

theorem run_app_grow {tys : Array TypeId} {ty t u el : TypeId} {el2 : TypeId} {i : TypeInfo} {z : Value} {base : Option Addr} {len c n : Nat} {x : Value} {arr old : Array Value}
    (h0 : tys[0]? = some t) (ht : P.underlying t = some (.slice el)) (hi : P.info? el = some i) (hz : i.zero = some z) (h1 : tys[1]? = some u) (hu : P.underlying u = some (.slice el2) ∨ P.underlying u = some .string)
    (hlen : (Builtin.lenOf x).run P w = .ok n w) (hfirst : (Builtin.firstCells i.size n x).run P w.drew = .ok arr w.drew) (hold : (Builtin.firstCells i.size len (.slice base len c)).run P w.drew = .ok old w.drew)
    (hfit : c < len + n) (hb0 : 0 < i.bytes) (h47 : (len + n) * i.bytes ≤ 140737488355328) :
    (Builtin.append_ tys ty #[.slice base len c, x]).run P w =
      .ok (.slice (some ⟨w.heap.size, 0, none⟩) (len + n) (grownCap w (len + n) c el))
        (pushed w (.cells (old ++ arr ++ Builtin.zeroCells z.cells (grownCap w (len + n) c el - (len + n))) el) 1) := by
  have hn : ¬ (len + n ≤ c) := by omega
  have hle : len + n ≤ (len + n) * i.bytes := Nat.le_mul_of_pos_right _ hb0
  have h63' : ¬ (9223372036854775807 < ((len : Int) + (n : Int))) := by omega
  have h48' : ¬ (281474976710656 < Builtin.nextslicecap (len + n) c * i.bytes) := by
    have := growslice_fits hfit h47
    omega
  rcases hu with hu | hu
  all_goals
    simp [Builtin.append_, h0, h1, run_underlying ht, run_underlying hu, sizeOf, typeInfo, zeroValue, hi, hz, hlen, hn, h63', h48', Question.forced, hfirst, hold, newRow, grownCap]
    rfl

theorem size_zeroCells (z : Array Value) (n : Nat) : (Builtin.zeroCells z n).size = n * z.size := by simp [Builtin.zeroCells]

theorem take_mid {rows new : List (List PV)} {p : Nat} (hp : p ≤ rows.length) (hn : p + new.length ≤ rows.length) : (rows.take p ++ new ++ rows.drop (p + new.length)).length = rows.length := by
  simp; omega

theorem hsets_one {H : Heap} {id : Nat} {b : Blk} : hsets [(id, b)] H = hset H id b := rfl

theorem hget_hset_self {H : Heap} {id : Nat} {b : Blk} (h : hget H id = some b) (j : Nat) : hget (hset H id b) j = hget H j := by
  rw [hget_hset]
  split
  · subst_vars; exact h.symm
  · rfl

theorem Post.congr {e : Eff} {u : List (Nat × Blk)} {v : Value} {w' : World} {R' : Refs} (h : Post w R H e v w' R') (hu : ∀ j, hget (hsets e.upd H) j = hget (hsets u H) j) (rd : List Nat) :
    Post w R H ⟨e.v, u, rd⟩ v w' R' :=
  ⟨h.heap.congr hu, h.ext, h.grow, fun k hk hn hx => h.out k hk hn ((Xof_congr hu k).2 hx), h.val.mono (Grow.refl w' _) (fun _ _ hn hx => hn ((Xof_congr hu _).2 hx)) (RExt.refl _)⟩

theorem OpOK.congr {o : Oper} {e : Eff} {u : List (Nat × Blk)} {rd : List Nat} (h : OpOK P o a w R H e) (hu : ∀ j, hget (hsets e.upd H) j = hget (hsets u H) j) : OpOK P o a w R H ⟨e.v, u, rd⟩ :=
  fun next Q hn => h next Q fun v w' R' hp => hn v w' R' (hp.congr hu rd)

theorem szOK_of {n : Nat} : ∀ {rows : List (List PV)}, (∀ (i : Nat) (row : List PV), rows[i]? = some row → row.length = n) → szOK n rows = true
  | [], _ => rfl
  | r :: s, h => by
    simp only [szOK]
    rw [nbeq_iff.2 (h 0 r rfl)]
    exact szOK_of fun i row hi => h (i + 1) row (by simpa using hi)

theorem ok_app (hH : HRel w R H) (hE : ERel w R H env a.tmps) (hG : GlobOK cx gs w (Xof H R)) {o : Oper} {c : Call} {x y : Operand} {t u el el2 : TypeId} {x' y' : Opd} {id esz : Nat} {i : TypeInfo} {z : Value} {e : Eff}
    (ho : o.op = .call c) (hb : c.callee = .builtin .append) (ha : c.args = #[x, y]) (h0 : c.argTypes[0]? = some t) (ht : P.underlying t = some (.slice el)) (hi : P.info? el = some i) (hz : i.zero = some z)
    (h1 : c.argTypes[1]? = some u) (hu : P.underlying u = some (.slice el2) ∨ P.underlying u = some .string) (hs : i.size = esz) (hzs : z.cells.size = esz) (hb0 : 0 < i.bytes)
    (hx : mOpd gs x x' = true) (hy : mOpd gs y y' = true) (he : evOp cx env H (.app id esz i.bytes x' y') = some e) : OpOK P o a w R H e := by
  subst hs
  have rx := opd_rep hE hG hx
  have ry := opd_rep hE hG hy
  simp only [evOp] at he
  split at he <;> first | (cases he; done) | skip
  rename_i new ids hnew
  generalize opd cx env x' = px at rx he
  generalize opd cx env y' = py at ry he hnew
  generalize hvx : a.eval x = vx at rx
  generalize hvy : a.eval y = vy at ry
  have hrun : ∀ {r : Value} {w' : World}, (Builtin.append_ c.argTypes o.type #[vx, vy]).run P w = .ok r w' → (execOp a.eval o).run P w = .ok (.value r) w' := by
    intro r w' h
    rw [run_builtin ho hb]
    simp [ha, hvx, hvy, builtin, h]
  -- nothing is appended
  have nothing : new = [] → ∀ {pv : PV} {ad : Option Addr} {n c' : Nat}, vx = .slice ad n c' → n ≤ c' → Rep w (Xof H R) R pv vx → OpOK P o a w R H ⟨pv, [], ids⟩ := by
    rintro rfl pv ad n c' rfl hn hr
    have hR := rowsIn_rep (P := P) hH hnew (by rfl) ry
    obtain ⟨arr, f1, f2, _⟩ := hR.first 0 (Nat.le_refl _)
    have harr : arr = #[] := by
      have : arr.size = 0 := by rw [f2]; simp
      simpa using this
    subst harr
    have := run_app_in (P := P) (w := w) (ty := o.type) (base := ad) (len := n) (c := c') (x := vy) (n := 0) h0 ht hi h1 hu (hR.len w) (f1 w rfl) (by omega)
    refine OpOK.pure hH (hrun (r := .slice ad n c') ?_) hr
    rw [this]
    cases ad <;> simp [storeCells]
  -- a new block
  have grown : ∀ {rows : List (List PV)} {ad : Option Addr} {n c' : Nat}, vx = .slice ad n c' → n = rows.length → (∃ old : Array Value, (∀ w' : World, w'.heap = w.heap → (Builtin.firstCells i.size n vx).run P w' = .ok old w') ∧ old.size = n * i.size ∧ RowsAt w (Xof H R) old 0 i.size rows) →
      szOK i.size new = true → c' < n + new.length → (n + new.length) * i.bytes ≤ 140737488355328 →
      ∃ (cur' : Array Value) (cap : Nat), (execOp a.eval o).run P w = .ok (.value (.slice (some ⟨w.heap.size, 0, none⟩) (n + new.length) cap)) (pushed w (.cells cur' el) 1) ∧ n + new.length ≤ cap ∧
        cap * i.size ≤ cur'.size ∧ RowsAt w (Xof H R) cur' 0 i.size (rows ++ new) := by
    rintro rows ad n c' rfl hn ⟨old, o1, o2, o3⟩ hz' hlt h47
    have hR := rowsIn_rep (P := P) hH hnew hz' ry
    obtain ⟨arr, f1, f2, f3⟩ := hR.first new.length (Nat.le_refl _)
    have h := run_app_grow (P := P) (w := w) (ty := o.type) (base := ad) (len := n) (c := c') (x := vy) (n := new.length) h0 ht hi hz h1 hu (hR.len w) (f1 w.drew rfl) (o1 w.drew rfl) hlt hb0 h47
    refine ⟨_, _, hrun h, grownCap_ge w _ _ _, ?_, ?_⟩
    · have := grownCap_ge w (n + new.length) c' el
      simp only [Array.size_append, size_zeroCells, o2, f2, hzs]
      rw [← Nat.add_mul, ← Nat.add_mul]
      exact Nat.mul_le_mul_right _ (by omega)
    · refine RowsAt.head (RowsAt.append o3 (by rw [o2, hn]) ?_)
      rwa [List.take_length] at f3
  split at he
  · -- a slice without room
    cases rx with
    | nul _ ad =>
      split at he
      · cases he
        exact nothing rfl rfl (Nat.le_refl _) (.nul _ _)
      · rename_i hne
        split at he <;> first | (cases he; done) | skip
        rename_i h47
        split at he <;> cases he
        rename_i hid hz'
        have hpos : 0 < new.length := List.length_pos_iff.2 hne
        obtain ⟨cur', cap, g1, g2, g3, g4⟩ := grown (rows := []) (ad := ad) (n := 0) (c' := 0) rfl rfl
          (by obtain ⟨old, o1, o2, o3⟩ := (reads_empty (P := P) (w := w) (X := Xof H R) (esz := i.size) (ad := ad) (c := 0)).first 0 (Nat.le_refl _); exact ⟨old, o1, o2, o3⟩) hz' (by omega) (by simpa using h47)
        obtain ⟨R', hp⟩ := post_arr0 (w := w) (R := R) (rd := ids) (n := 1) (et := el) (sz := i.size) (c := cap) (rows := new) (arr := cur') hH hid (by omega) g3 (fun X' hS => by
          have g4' : RowsAt w (Xof H R) cur' 0 i.size new := by simpa using g4
          exact g4'.mono (Grow.refl w _) (fun k hk hn hX => by rcases hS.sub k hX with h | h; exact hn h; omega))
        simp only [Nat.zero_add] at g1
        exact OpOK.of_run g1 hp
  · -- rows that are read alone
    split at he <;> cases he
    cases rx with
    | ro0 _ ad c' => exact nothing rfl rfl (Nat.zero_le _) (.ro0 _ _ _)
    | ro _ k o' sz rows c' vs hk hs hl hz' hc hr => exact nothing rfl rfl hl (.ro _ k o' sz _ c' vs hk hs hl hz' hc hr)
  · -- the call's own
    rename_i b off len cl
    split at he <;> first | (cases he; done) | skip
    rename_i sz rows hg
    split at he <;> first | (cases he; done) | skip
    rename_i hchk
    simp only [Bool.and_eq_true] at hchk
    obtain ⟨⟨k1, k2⟩, hz'⟩ := hchk
    have hcl := nbeq_iff.1 k1
    have hsz := nbeq_iff.1 k2
    subst hsz
    have hvo : validO H b cl = true := by unfold validO; rw [hg]; exact k1
    obtain ⟨r, hr, hrcl, hbx, hcase⟩ := own_real hH hvo rx
    have hR := rowsIn_rep (P := P) hH hnew hz' ry
    obtain ⟨arr, f1, f2, f3⟩ := hR.first new.length (Nat.le_refl _)
    rw [List.take_length] at f3
    have inplace : ∀ (k base c' : Nat) (cs : Array Value) (et : TypeId) (fr : Nat × Nat), r.blk = some (k, base) → vx = .slice (some ⟨k, base + off * r.sz, none⟩) len c' → w.heap[k]? = some (.cells cs et fr) →
        off + len ≤ cl → cl ≤ off + c' → base + (off + c') * r.sz ≤ cs.size → len + new.length ≤ c' → (off + len + new.length ≤ cl ∨ off + len = cl) →
        OpOK P o a w R H ⟨.own b off (len + new.length) (rows.take (off + len) ++ new ++ rows.drop (off + len + new.length)).length, [(b, .arr i.size (rows.take (off + len) ++ new ++ rows.drop (off + len + new.length)))], ids⟩ := by
      intro k base c' cs et fr hk hvx' hw b1 b3 b4 hfit hwhere
      obtain ⟨a1, a2, a3, cs', et', hw', a4, a5⟩ := arr_real hH hg hr hk
      rw [hw] at hw'; cases hw'
      have hb' : base + (off + len + new.length) * i.size ≤ cs.size := by
        rw [a3] at b4
        have := Nat.mul_le_mul_right i.size (show off + len + new.length ≤ off + c' by omega)
        omega
      have hrows := putRow_rows a5 f3 f2 (p := off + len) (by omega) hb'
      have hone := f3.ones f2
      have hfits : base + (off + len) * i.size + arr.toList.length ≤ cs.size := by
        rw [Nat.add_mul (off + len)] at hb'
        simp; omega
      have hpl : (rows.take (off + len) ++ new ++ rows.drop (off + len + new.length)).length = max rows.length (off + len + new.length) := by
        simp; omega
      obtain ⟨q1, q2, q3, q4⟩ := arr_write hH hg hr hk hw (cur' := putRow cs (base + (off + len) * i.size) arr.toList) (putRow_size hfits) (by rw [hpl]; omega) (by
        rw [hpl]
        rcases hwhere with h | h
        · rw [Nat.max_eq_left (by omega)]; exact a4
        · rw [Nat.max_eq_right (by omega)]; exact hb') hrows
      have hrun1 := run_app_in (P := P) (w := w) (ty := o.type) (base := some ⟨k, base + off * r.sz, none⟩) (len := len) (c := c') (x := vy) (n := new.length) h0 ht hi h1 hu (hR.len w) (f1 w rfl) hfit
      have hst := run_storeCells_at (P := P) k (base + (off + len) * i.size) el arr.toList 0
      have hst := run_storeCells_at (P := P) k (base + (off + len) * i.size) et arr.toList 0 cs w hw (by omega) hone
      have hrun2 := hrun (r := .slice (some ⟨k, base + off * r.sz, none⟩) (len + new.length) c') (w' := w.setRow k (putRow cs (base + (off + len) * i.size) arr.toList)) (by
        rw [hvx', hrun1]
        simp only [add_none]
        rw [show base + off * r.sz + len * i.size = base + (off + len) * i.size by rw [a3, Nat.add_mul]; omega]
        simp only [Nat.add_zero] at hst
        rw [hst]
        rfl)
      refine OpOK.of_run hrun2 ⟨q1, q2, q3, q4, ?_⟩
      exact .own _ b { r with cl := (rows.take (off + len) ++ new ++ rows.drop (off + len + new.length)).length } k base off (len + new.length) _ c' (putRow cs (base + (off + len) * i.size) arr.toList) et (0, 0) (upR_same R b _) a1 rfl hk (by rw [hpl]; omega) hfit (by rw [hpl]; omega) (setRow_same hw) (by
        rw [putRow_size hfits]; exact b4)
    by_cases hnew0 : new = []
    · have hsame : rows.take (off + len) ++ new ++ rows.drop (off + len + new.length) = rows := by subst hnew0; simp
      have hle : off + len + new.length ≤ cl := by
        subst hnew0
        rcases hcase with ⟨k, base, c', cs, et, fr, hk, b1, b2, b3, hw, b4, rfl⟩ | ⟨rfl, rfl, ad, rfl⟩ <;> simp <;> omega
      rw [if_pos hle] at he
      cases he
      obtain ⟨ad, c', hvx'⟩ := own_len hH hvo rx
      have hn2 : len ≤ c' := by
        rcases hcase with ⟨k, base, c2, cs, et, fr, hk, b1, b2, b3, hw, b4, h⟩ | ⟨_, rfl, ad2, h⟩
        · rw [hvx'] at h; cases h; exact b2
        · exact Nat.zero_le _
      have := nothing hnew0 hvx' hn2 rx
      have hlen0 : len + new.length = len := by subst hnew0; rfl
      rw [hsame, hlen0]
      exact this.congr fun j => (hget_hset_self hg j).symm
    · have hpos : 0 < new.length := List.length_pos_iff.2 hnew0
      split at he
      · rename_i hle
        cases he
        rcases hcase with ⟨k, base, c', cs, et, fr, hk, b1, b2, b3, hw, b4, hv⟩ | ⟨rfl, rfl, ad, rfl⟩
        · have := inplace k base c' cs et fr hk hv hw b1 b3 b4 (by omega) (.inl hle)
          rwa [show (rows.take (off + len) ++ new ++ rows.drop (off + len + new.length)).length = cl by rw [take_mid (by omega) (by omega)]; exact hcl] at this
        · omega
      · rename_i hle
        split at he <;> first | (cases he; done) | skip
        rename_i e1 e2
        split at he <;> cases he
        rename_i h47
        have hoff := nbeq_iff.1 e1
        have hlen := nbeq_iff.1 e2
        subst hoff
        obtain ⟨ad, c', hvx'⟩ := own_len hH hvo rx
        have hrl : rows.length = len := by omega
        by_cases hc' : len + new.length ≤ c'
        · rcases hcase with ⟨k, base, c2, cs, et, fr, hk, b1, b2, b3, hw, b4, hv⟩ | ⟨_, hl0, ad2, hv⟩
          · rw [hvx'] at hv
            cases hv
            have := inplace k base c' cs et fr hk hvx' hw b1 b3 b4 hc' (.inr (by omega))
            have hsame : rows.take (0 + len) ++ new ++ rows.drop (0 + len + new.length) = rows ++ new := by
              rw [List.take_of_length_le (by omega), List.drop_eq_nil_of_le (by omega), List.append_nil]
            rw [hsame, List.length_append, hrl] at this
            exact this
          · rw [hvx'] at hv; cases hv; omega
        · have hzr : szOK i.size rows = true := by
            obtain ⟨r', q1, _, _, q0, q2 | ⟨k', base', cs, et, q2, q3, q4, q5⟩⟩ := hH.has b _ hg
            · rw [q2.2]; rfl
            · rw [q0] at q5; exact szOK_of q5.1
          have hself : rowsIn H i.size (.own b 0 len cl) = some (rows, [b]) := by
            simp only [rowsIn, hg, k1, nbeq_iff.2 rfl]
            rw [List.drop_zero, List.take_of_length_le (by omega)]
          have hRs := rowsIn_rep (P := P) hH hself hzr rx
          obtain ⟨cur', cap, g1, g2, g3, g4⟩ := grown (rows := rows) (ad := ad) (n := len) (c' := c') hvx' hrl.symm (by
            obtain ⟨old, o1, o2, o3⟩ := hRs.first len (by omega)
            rw [List.take_of_length_le (by omega)] at o3
            exact ⟨old, o1, o2, o3⟩) hz' (by omega) h47
          have hcap : (rows ++ new).length * i.size ≤ cur'.size := by
            rw [List.length_append, hrl]
            exact Nat.le_trans (Nat.mul_le_mul_right _ g2) g3
          obtain ⟨m1, m2, m3, m4⟩ := arr_move (et := el) (n := 1) hH hg hr (rows' := rows ++ new) (by simp; omega) hcap g4
          refine OpOK.of_run g1 ⟨m1, m2, m3, m4, ?_⟩
          have := Rep.own (w := pushed w (.cells cur' el) 1) (X := Xof (hset H b (.arr i.size (rows ++ new))) (upR R b { r with cl := (rows ++ new).length, blk := some (w.heap.size, 0) })) _ b { r with cl := (rows ++ new).length, blk := some (w.heap.size, 0) } w.heap.size 0 0 (len + new.length) (len + new.length) cap cur' el (0, 0)
            (upR_same R b _) hbx (by show (rows ++ new).length = _; rw [List.length_append, hrl]) rfl (by omega) g2 (by omega) pushed_new (by
              obtain ⟨r', q1, _, _, q0, _⟩ := hH.has b _ hg
              rw [hr] at q1; cases q1
              show 0 + (0 + cap) * r.sz ≤ _
              rw [q0]; simpa using g3)
          rw [show 0 + 0 * (RB.sz _) = 0 by simp] at this
          exact this
  · cases he

theorem ok_copy (hH : HRel w R H) (hE : ERel w R H env a.tmps) (hG : GlobOK cx gs w (Xof H R)) {o : Oper} {c : Call} {x y : Operand} {t el : TypeId} {x' y' : Opd} {esz : Nat} {e : Eff}
    (ho : o.op = .call c) (hb : c.callee = .builtin .copy) (ha : c.args = #[x, y]) (h0 : c.argTypes[0]? = some t) (ht : P.underlying t = some (.slice el)) (hs : tySize P el = some esz)
    (hx : mOpd gs x x' = true) (hy : mOpd gs y y' = true)
    (he : evOp cx env H (.copy esz x' y') = some e) : OpOK P o a w R H e := by
  have rx := opd_rep hE hG hx
  have ry := opd_rep hE hG hy
  simp only [evOp] at he
  generalize opd cx env x' = px at rx he
  generalize opd cx env y' = py at ry he
  split at he <;> first | (cases he; done) | skip
  rename_i new ids hnew
  have hz' : szOK esz new = true := by
    split at he
    · split at he <;> first | (cases he; done) | assumption
    · split at he <;> first | (cases he; done) | skip
      split at he <;> cases he
      rename_i hchk
      simp only [Bool.and_eq_true] at hchk
      exact hchk.2
    · cases he
  have hR := rowsIn_rep (P := P) hH hnew hz' ry
  generalize hvx : a.eval x = vx at rx
  generalize hvy : a.eval y = vy at ry hR
  have hrun : ∀ {r : Value} {w' : World}, (Builtin.copy_ c.argTypes o.type #[vx, vy]).run P w = .ok r w' → (execOp a.eval o).run P w = .ok (.value r) w' := by
    intro r w' h
    rw [run_builtin ho hb]
    simp [ha, hvx, hvy, builtin, h]
  have key : ∀ {ad : Option Addr} {len c' : Nat} {arr : Array Value}, vx = .slice ad len c' → (Builtin.firstCells esz (min new.length len) vy).run P w = .ok arr w →
      (Builtin.copy_ c.argTypes o.type #[vx, vy]).run P w = match ad with
        | none => .ok (.int .i64 (min new.length len : Nat)) w
        | some a => ((storeCells a arr.toList).run P w).andThen fun _ w' => .ok (.int .i64 (min new.length len : Nat)) w' := by
    rintro ad len c' arr rfl hf
    cases ad <;> simp [Builtin.copy_, h0, run_underlying ht, run_sizeOf' hs, hR.len w, hf, goInt]
  split at he
  · rw [hz'] at he
    cases he
    cases rx with
    | nul _ ad =>
      obtain ⟨arr, f1, f2, _⟩ := hR.first 0 (Nat.zero_le _)
      have harr : arr = #[] := by
        have : arr.size = 0 := by rw [f2]; simp
        simpa using this
      subst harr
      have := key rfl (arr := #[]) (by simpa using f1 w rfl)
      refine OpOK.pure hH (hrun (r := .int .i64 0) ?_) (.int _ _ _)
      rw [this]
      cases ad <;> simp [storeCells]
  · rename_i b off len cl
    split at he <;> first | (cases he; done) | skip
    rename_i sz rows hg
    split at he <;> cases he
    rename_i hchk
    simp only [Bool.and_eq_true] at hchk
    obtain ⟨⟨k1, k2⟩, _⟩ := hchk
    have hcl := nbeq_iff.1 k1
    have hsz := nbeq_iff.1 k2
    subst hsz
    have hvo : validO H b cl = true := by unfold validO; rw [hg]; exact k1
    obtain ⟨r, hr, hrcl, hbx, hcase⟩ := own_real hH hvo rx
    obtain ⟨arr, f1, f2, f3⟩ := hR.first (min new.length len) (Nat.min_le_left _ _)
    have hln : (new.take (min new.length len)).length = min new.length len := by simp
    rcases hcase with ⟨k, base, c', cs, et, fr, hk, b1, b2, b3, hw, b4, rfl⟩ | ⟨rfl, rfl, ad, rfl⟩
    · obtain ⟨a1, a2, a3, cs', et', hw', a4, a5⟩ := arr_real hH hg hr hk
      rw [hw] at hw'; cases hw'
      have hb' : base + (off + (new.take (min new.length len)).length) * sz ≤ cs.size := by
        rw [hln]
        have := Nat.mul_le_mul_right sz (show off + min new.length len ≤ rows.length by omega)
        omega
      have hrows := putRow_rows a5 f3 (by rw [hln]; exact f2) (p := off) (by omega) hb'
      have hone := f3.ones (by rw [hln]; exact f2)
      rw [hln] at hrows hb'
      have hfits : base + off * sz + arr.toList.length ≤ cs.size := by
        rw [Nat.add_mul off] at hb'
        simp; omega
      have hpl : (rows.take off ++ new.take (min new.length len) ++ rows.drop (off + min new.length len)).length = rows.length := by
        have := take_mid (rows := rows) (new := new.take (min new.length len)) (p := off) (by omega) (by rw [hln]; omega)
        rwa [hln] at this
      obtain ⟨q1, q2, q3, q4⟩ := arr_write hH hg hr hk hw (cur' := putRow cs (base + off * sz) arr.toList) (putRow_size hfits) (by rw [hpl]; exact Nat.le_refl _) (by rw [hpl]; exact a4) hrows
      have hst := run_storeCells_at (P := P) k (base + off * sz) et arr.toList 0 cs w hw (by omega) hone
      simp only [Nat.add_zero] at hst
      refine OpOK.of_run (hrun (r := .int .i64 (min new.length len : Nat)) (w' := w.setRow k (putRow cs (base + off * sz) arr.toList)) ?_) ⟨q1, q2, q3, q4, .int _ _ _⟩
      rw [key rfl (f1 w rfl)]
      simp only [a3]
      rw [hst]
      rfl
    · have e0 : min new.length 0 = 0 := by omega
      simp only [e0] at f1 f2 ⊢
      have harr : arr = #[] := by
        have : arr.size = 0 := by rw [f2]; simp
        simpa using this
      subst harr
      have h := key rfl (arr := #[]) (by rw [e0]; exact f1 w rfl)
      have hp : OpOK P o a w R H ⟨.int .i64 0, [], ids⟩ := by
        refine OpOK.pure hH (hrun (r := .int .i64 0) ?_) (.int _ _ _)
        rw [h]
        cases ad <;> simp [storeCells]
      refine hp.congr fun j => ?_
      simp only [hsets, List.take_zero, Nat.add_zero, List.append_nil, List.take_append_drop]
      exact (hget_hset_self hg j).symm
  · cases he

end

end Go.Ev

/-
  Operations that touch no memory: each comes to the value that the evaluator gives.
-/
import Derived.Test.YtcnipahcheooiaaE4
import Derived.Laws.StructEq
namespace Go.Ev
open Go
set_option linter.unusedSectionVars false
set_option linter.unusedSimpArgs false
set_option linter.unusedVariables false
variable [Frame]

section
variable {P : Program} {cx : Cx} {gs : List Nat} {w : World} {R : Refs} {H : Heap} {env : Env} {a : Act}

theorem ok_mov (hH : HRel w R H) (hE : ERel w R H env a.tmps) (hG : GlobOK cx gs w (Xof H R)) {o : Oper} {x : Operand} {y : Opd}
    (ho : o.op = .move x ∨ o.op = .assign x) (hm : mOpd gs x y = true) : OpOK P o a w R H ⟨opd cx env y, [], []⟩ := by
  refine OpOK.pure hH (v := a.eval x) ?_ (opd_rep hE hG hm)
  rcases ho with h | h <;> simp [execOp, h]

theorem ok_pick (hH : HRel w R H) (hE : ERel w R H env a.tmps) (hG : GlobOK cx gs w (Xof H R)) {o : Oper} {c x y : Operand} {c' x' y' : Opd} {e : Eff}
    (ho : o.op = .pick c x y) (hc : mOpd gs c c' = true) (hx : mOpd gs x x' = true) (hy : mOpd gs y y' = true)
    (he : evOp cx env H (.pick c' x' y') = some e) : OpOK P o a w R H e := by
  have rc := opd_rep hE hG hc
  have rx := opd_rep hE hG hx
  have ry := opd_rep hE hG hy
  simp only [evOp] at he
  cases hc' : opd cx env c' <;> rw [hc'] at he rc <;> simp only at he <;> first | (cases he; done) | skip
  rename_i b
  generalize hv : a.eval c = v at rc
  cases rc
  cases b <;> simp only at he <;> cases he
  · exact OpOK.pure hH (v := a.eval y) (by simp [execOp, ho, hv, asBool]) ry
  · exact OpOK.pure hH (v := a.eval x) (by simp [execOp, ho, hv, asBool]) rx

theorem ok_toInt (hH : HRel w R H) (hE : ERel w R H env a.tmps) (hG : GlobOK cx gs w (Xof H R)) {o : Oper} {src dst : TypeId} {x : Operand} {x' : Opd} {k k0 : IntKind} {e : Eff}
    (ho : o.op = .convert src dst x) (hs : P.underlying src = some (.int k0)) (ht : P.underlying dst = some (.int k)) (hx : mOpd gs x x' = true)
    (he : evOp cx env H (.toInt k x') = some e) : OpOK P o a w R H e := by
  have rx := opd_rep hE hG hx
  simp only [evOp] at he
  cases hx' : opd cx env x' <;> rw [hx'] at he rx <;> simp only at he <;> first | (cases he; done) | skip
  generalize hv : a.eval x = v at rx
  cases rx
  cases he
  exact OpOK.pure hH (v := .int k (k.wrap _)) (by simp [execOp, ho, hv, convert, underlying, hs, ht, Conv.intToInt]) (.int R k _)

theorem ok_same (hH : HRel w R H) (hE : ERel w R H env a.tmps) (hG : GlobOK cx gs w (Xof H R)) {o : Oper} {src dst : TypeId} {x : Operand} {x' : Opd} {e : Eff}
    (ho : o.op = .convert src dst x) (hs : P.underlying src = some .string) (ht : P.underlying dst = some .string) (hx : mOpd gs x x' = true)
    (he : evOp cx env H (.same x') = some e) : OpOK P o a w R H e := by
  have rx := opd_rep hE hG hx
  simp only [evOp] at he
  cases hx' : opd cx env x' <;> rw [hx'] at he rx <;> simp only at he <;> first | (cases he; done) | skip
  generalize hv : a.eval x = v at rx
  cases rx
  cases he
  exact OpOK.pure hH (v := .string ⟨_⟩) (by simp [execOp, ho, hv, convert, underlying, hs, ht]) (.str R _)

theorem ok_un (hH : HRel w R H) (hE : ERel w R H env a.tmps) (hG : GlobOK cx gs w (Xof H R)) {o : Oper} {op : UnOp} {t : TypeId} {x : Operand} {x' : Opd} {e : Eff}
    (ho : o.op = .unOp op t x) (hx : mOpd gs x x' = true) (he : evOp cx env H (.un op x') = some e) : OpOK P o a w R H e := by
  have rx := opd_rep hE hG hx
  simp only [evOp] at he
  cases hu : unv op (opd cx env x') with
  | none => rw [hu] at he; cases he
  | some p =>
    rw [hu] at he; cases he
    generalize opd cx env x' = pv at rx hu
    generalize hv : a.eval x = v at rx
    unfold unv at hu
    split at hu <;> first | (cases hu; done) | skip
    · cases rx; cases hu
      exact OpOK.pure hH (v := .bool _) (by simp [execOp, ho, hv, Op.unary]) (.bool R _)
    · cases rx; cases hu
      exact OpOK.pure hH (v := .int _ _) (by simp [execOp, ho, hv, Op.unary, Op.intArith]) (.int R _ _)
    · cases rx; cases hu
      exact OpOK.pure hH (v := .int _ _) (by simp [execOp, ho, hv, Op.unary, Op.intBits]) (.int R _ _)

theorem ok_ext (hH : HRel w R H) (hE : ERel w R H env a.tmps) (hG : GlobOK cx gs w (Xof H R)) {o : Oper} {i : Nat} {x : Operand} {x' : Opd} {e : Eff}
    (ho : o.op = .extract x i) (hx : mOpd gs x x' = true) (he : evOp cx env H (.ext x' i) = some e) : OpOK P o a w R H e := by
  have rx := opd_rep hE hG hx
  simp only [evOp] at he
  cases hx' : opd cx env x' <;> rw [hx'] at he rx <;> simp only at he <;> first | (cases he; done) | skip
  rename_i vs
  generalize hv : a.eval x = v at rx
  cases rx with
  | tuple _ _ arr hl h =>
    cases hi : vs[i]? with
    | none => rw [hi] at he; cases he
    | some p =>
      rw [hi] at he; cases he
      have hlt : i < vs.length := (List.getElem?_eq_some_iff.1 hi).1
      have hla : i < arr.size := by omega
      exact OpOK.pure hH (v := arr[i]) (by simp [execOp, ho, hv, Instr.extract, hla]) (h i p _ hi (by simp [hla]))

theorem ok_mki (hH : HRel w R H) (hE : ERel w R H env a.tmps) (hG : GlobOK cx gs w (Xof H R)) {o : Oper} {t : TypeId} {x : Operand} {x' : Opd}
    (ho : o.op = .makeInterface t x) (ht : ∃ d, P.underlying t = some d ∧ ∀ ms, d ≠ .interface ms) (hx : mOpd gs x x' = true) : OpOK P o a w R H ⟨.iface t (opd cx env x'), [], []⟩ := by
  obtain ⟨d, hd, hn⟩ := ht
  refine OpOK.pure hH (v := .iface t (a.eval x)) ?_ (.iface R t _ _ (opd_rep hE hG hx))
  cases d <;> first | (exact absurd rfl (hn _)) | simp [execOp, ho, Instr.makeInterface, underlying, hd]

theorem opds_rep (hE : ERel w R H env a.tmps) (hG : GlobOK cx gs w (Xof H R)) : ∀ {xs : List Operand} {ys : List Opd}, xs.length = ys.length → (∀ (i : Nat) x y, xs[i]? = some x → ys[i]? = some y → mOpd gs x y = true) →
    (opds cx env ys).length = xs.length ∧ ∀ (i : Nat) p v, (opds cx env ys)[i]? = some p → (xs.map a.eval)[i]? = some v → Rep w (Xof H R) R p v
  | [], [], _, _ => ⟨rfl, fun i p v hp => by simp [opds] at hp⟩
  | x :: xs, y :: ys, hl, h => by
    obtain ⟨l, ih⟩ := opds_rep hE hG (xs := xs) (ys := ys) (by simpa using hl) (fun i x' y' hx hy => h (i + 1) x' y' (by simpa using hx) (by simpa using hy))
    refine ⟨by simp [opds, l], fun i p v hp hv => ?_⟩
    cases i with
    | zero => simp [opds] at hp hv; subst hp; subst hv; exact opd_rep hE hG (h 0 x y rfl rfl)
    | succ i => simp [opds] at hp hv; exact ih i p v hp (by simpa using hv)
  | [], _ :: _, hl, _ => by simp at hl
  | _ :: _, [], hl, _ => by simp at hl

def mOpds (gs : List Nat) : List Operand → List Opd → Bool
  | [], [] => true
  | x :: r, y :: s => mOpd gs x y && mOpds gs r s
  | _, _ => false
theorem mOpds_spec {gs : List Nat} : ∀ {xs : List Operand} {ys : List Opd}, mOpds gs xs ys = true →
    xs.length = ys.length ∧ ∀ (i : Nat) x y, xs[i]? = some x → ys[i]? = some y → mOpd gs x y = true
  | [], [], _ => ⟨rfl, fun i x y hx => by simp at hx⟩
  | x :: r, y :: s, h => by
    simp [mOpds] at h
    obtain ⟨l, ih⟩ := mOpds_spec h.2
    refine ⟨by simp [l], fun i x' y' hx hy => ?_⟩
    cases i with
    | zero => simp at hx hy; subst hx; subst hy; exact h.1
    | succ i => simp at hx hy; exact ih i x' y' hx hy
  | [], _ :: _, h => by simp [mOpds] at h
  | _ :: _, [], h => by simp [mOpds] at h

theorem size_mk (s : List UInt8) : (⟨s.toArray⟩ : ByteArray).size = s.length := by simp [ByteArray.size]

theorem HRel.valid (hH : HRel w R H) {id cl : Nat} (hv : validO H id cl = true) {r : RB} (hr : R id = some r) : r.cl = cl ∧ r.box = false := by
  unfold validO at hv
  split at hv
  · rename_i rows hg
    obtain ⟨r', h1, h2⟩ := hH.has id _ hg
    rw [hr] at h1; cases h1
    exact ⟨h2.2.1.trans (Nat.eq_of_beq_eq_true hv), h2.1⟩
  · rename_i rows hg
    obtain ⟨r', h1, h2⟩ := hH.has id _ hg
    rw [hr] at h1; cases h1
    exact ⟨h2.2.1.trans (Nat.eq_of_beq_eq_true hv), h2.1⟩
  · cases hv

/-- A view that is not stale: where it lies. -/
theorem own_real (hH : HRel w R H) {id off len cl : Nat} (hv : validO H id cl = true) {v : Value} (h : Rep w (Xof H R) R (.own id off len cl) v) :
    ∃ r, R id = some r ∧ r.cl = cl ∧ r.box = false ∧
      ((∃ k base c cs et fr, r.blk = some (k, base) ∧ off + len ≤ cl ∧ len ≤ c ∧ cl ≤ off + c ∧ w.heap[k]? = some (.cells cs et fr) ∧
          base + (off + c) * r.sz ≤ cs.size ∧ v = .slice (some ⟨k, base + off * r.sz, none⟩) len c) ∨
        (off = cl ∧ len = 0 ∧ ∃ ad, v = .slice ad 0 0)) := by
  cases h with
  | own _ _ b k base _ _ _ c cs et fr h hb hl hk h1 h2 h3 hw h4 => exact ⟨b, h, hl, hb, .inl ⟨k, base, c, cs, et, fr, hk, h1, h2, h3, hw, h4, rfl⟩⟩
  | ownZ _ _ b ad _ h hb hl => exact ⟨b, h, hl, hb, .inr ⟨rfl, rfl, ad, rfl⟩⟩
  | ownS _ _ b _ _ _ _ h hb hl h1 => have := (hH.valid hv h).1; omega

theorem own_len (hH : HRel w R H) {id off len cl : Nat} (hv : validO H id cl = true) {v : Value} (h : Rep w (Xof H R) R (.own id off len cl) v) :
    ∃ ad c, v = .slice ad len c := by
  obtain ⟨r, _, _, _, ⟨k, base, c, cs, et, fr, _, _, _, _, _, _, rfl⟩ | ⟨rfl, rfl, ad, rfl⟩⟩ := own_real hH hv h
  · exact ⟨_, _, rfl⟩
  · exact ⟨_, _, rfl⟩

theorem run_builtin {b : Builtin} {o : Oper} {c : Call} (ho : o.op = .call c) (hb : c.callee = .builtin b) :
    (execOp a.eval o).run P w = (builtin b c.argTypes o.type (c.args.map fun | .const _ => true | _ => false) (c.args.map a.eval)).run P w := by
  simp only [execOp, ho, resolve, hb, invoke, Sem.run_bind, Sem.run_pure, Result.andThen_ok]
  rfl

theorem extract_get {α : Type} {arr : Array α} {j sz i : Nat} {v : α} (h : (arr.extract j (j + sz))[i]? = some v) : arr[j + i]? = some v := by
  obtain ⟨h1, h2⟩ := Array.getElem?_eq_some_iff.1 h
  rw [Array.getElem_extract] at h2
  simp at h1
  exact Array.getElem?_eq_some_iff.2 ⟨by omega, h2⟩

theorem ok_len (hH : HRel w R H) (hE : ERel w R H env a.tmps) (hG : GlobOK cx gs w (Xof H R)) {o : Oper} {c : Call} {x : Operand} {t el : TypeId} {x' : Opd} {e : Eff}
    (ho : o.op = .call c) (hb : c.callee = .builtin .len) (ha : c.args = #[x]) (hat : c.argTypes[0]? = some t)
    (ht : P.underlying t = some (.slice el)) (hx : mOpd gs x x' = true) (he : evOp cx env H (.len x') = some e) : OpOK P o a w R H e := by
  have rx := opd_rep hE hG hx
  simp only [evOp] at he
  generalize hp : opd cx env x' = pv at rx he
  generalize hv : a.eval x = v at rx
  have key : ∀ (n : Nat) ad c', v = .slice ad n c' → ∀ rd, e = ⟨.int .i64 n, [], rd⟩ → OpOK P o a w R H e := by
    intro n ad c' h2 rd h1
    subst h1; subst h2
    refine OpOK.pure hH (v := .int .i64 n) ?_ (.int R _ _)
    rw [run_builtin ho hb]
    simp [ha, hv, builtin, Builtin.len_, hat, underlying, ht, goInt]
  cases pv <;> simp only at he <;> first | (cases he; done) | skip
  · cases rx; cases he; exact key 0 _ _ rfl _ rfl
  · cases rx <;> cases he
    · exact key 0 _ _ rfl _ rfl
    · exact key _ _ _ rfl _ rfl
  · rename_i id off len cl
    cases hvo : validO H id cl <;> rw [hvo] at he <;> cases he
    obtain ⟨ad, c', rfl⟩ := own_len hH hvo rx
    exact key len _ _ rfl _ rfl

theorem ok_lenS (hH : HRel w R H) (hE : ERel w R H env a.tmps) (hG : GlobOK cx gs w (Xof H R)) {o : Oper} {c : Call} {x : Operand} {t : TypeId} {x' : Opd} {e : Eff}
    (ho : o.op = .call c) (hb : c.callee = .builtin .len) (ha : c.args = #[x]) (hat : c.argTypes[0]? = some t)
    (ht : P.underlying t = some .string) (hx : mOpd gs x x' = true) (he : evOp cx env H (.lenS x') = some e) : OpOK P o a w R H e := by
  have rx := opd_rep hE hG hx
  simp only [evOp] at he
  generalize hp : opd cx env x' = pv at rx he
  generalize hv : a.eval x = v at rx
  cases pv <;> simp only at he <;> first | (cases he; done) | skip
  cases rx; cases he
  refine OpOK.pure hH (v := .int .i64 _) ?_ (.int R _ _)
  rw [run_builtin ho hb]
  simp [ha, hv, builtin, Builtin.len_, hat, underlying, ht, goInt, size_mk]

theorem ok_lenA (hH : HRel w R H) {o : Oper} {c : Call} {x : Operand} {t el : TypeId} {n : Nat} {x' : Opd}
    (ho : o.op = .call c) (hb : c.callee = .builtin .len) (ha : c.args = #[x]) (hat : c.argTypes[0]? = some t)
    (ht : P.underlying t = some (.array n el) ∨ ∃ q, P.underlying t = some (.pointer q) ∧ P.underlying q = some (.array n el)) :
    OpOK P o a w R H ⟨.int .i64 n, [], []⟩ := by
  refine OpOK.pure hH (v := .int .i64 n) ?_ (.int R _ _)
  rw [run_builtin ho hb]
  rcases ht with ht | ⟨q, ht, hq⟩
  · simp [ha, builtin, Builtin.len_, hat, underlying, ht, goInt]
  · simp [ha, builtin, Builtin.len_, hat, underlying, ht, hq, goInt]

/-- A part of some cells. -/
theorem rdc_rep {X : Nat → Prop} {cells : List PV} {j sz : Nat} {agg : Bool} {p : PV} (hr : rdc cells j sz agg = some p) {arr : Array Value}
    (hl : cells.length ≤ arr.size) (h1 : ∀ (i : Nat) q v, cells[i]? = some q → arr[i]? = some v → v.oneCell' = true ∧ Rep w X R q v) :
    (agg = true → j + sz ≤ arr.size ∧ Rep w X R p (.agg (arr.extract j (j + sz)))) ∧ (agg = false → ∃ v, arr[j]? = some v ∧ Rep w X R p v) := by
  unfold rdc at hr
  cases agg with
  | true =>
    refine ⟨fun _ => ?_, fun h => by cases h⟩
    simp only at hr
    split at hr <;> cases hr
    rename_i hb
    have hb := Nat.le_of_ble_eq_true hb
    refine ⟨by omega, .agg R _ _ (by simp; omega) (fun i v hv => ?_) (fun i q v hq hv => ?_)⟩
    · have hi : i < (arr.extract j (j + sz)).size := (Array.getElem?_eq_some_iff.1 hv).1
      simp at hi
      have hjc : j + i < cells.length := by omega
      exact (h1 (j + i) cells[j + i] v (by simp) (extract_get hv)).1
    · have := extract_get hv
      have hq' : cells[j + i]? = some q := by
        rw [List.getElem?_take] at hq
        split at hq
        · simpa using hq
        · cases hq
      exact (h1 (j + i) q v hq' this).2
  | false =>
    refine ⟨fun h => (by cases h), fun _ => ?_⟩
    simp only at hr
    have hj : j < cells.length := (List.getElem?_eq_some_iff.1 hr).1
    have hja : j < arr.size := by omega
    exact ⟨arr[j], by simp [hja], (h1 j p _ hr (by simp [hja])).2⟩

theorem ok_field (hH : HRel w R H) (hE : ERel w R H env a.tmps) (hG : GlobOK cx gs w (Xof H R)) {o : Oper} {t : TypeId} {x : Operand} {i : Nat} {fs : Array Field} {f : Field} {x' : Opd} {sz : Nat} {agg : Bool} {e : Eff}
    (ho : o.op = .field t x i) (ht : P.underlying t = some (.struct fs)) (hf : fs[i]? = some f) (hsz : tySize P f.type = some sz) (hag : tyAgg P f.type = some agg)
    (hx : mOpd gs x x' = true) (he : evOp cx env H (.field f.offset sz agg x') = some e) : OpOK P o a w R H e := by
  have rx := opd_rep hE hG hx
  simp only [evOp] at he
  generalize hp : opd cx env x' = pv at rx he
  generalize hv : a.eval x = v at rx
  cases pv <;> simp only at he <;> first | (cases he; done) | skip
  rename_i cs
  cases rx with
  | agg _ _ arr hl h1 hh =>
    cases hr : rdc cs f.offset sz agg with
    | none => rw [hr] at he; cases he
    | some p =>
      rw [hr] at he; cases he
      obtain ⟨ra, rb⟩ := rdc_rep (w := w) (R := R) (X := Xof H R) hr (arr := arr) (by omega) (fun i q v hq hv => ⟨h1 i v hv, hh i q v hq hv⟩)
      cases agg with
      | true =>
        refine OpOK.pure hH (v := .agg (arr.extract f.offset (f.offset + sz))) ?_ (ra rfl).2
        simp [execOp, ho, hv, Instr.field, underlying, ht, hf, asAgg, part, run_isAgg' hag, run_sizeOf' hsz]
      | false =>
        obtain ⟨u, hu, hru⟩ := rb rfl
        refine OpOK.pure hH (v := u) ?_ hru
        simp [execOp, ho, hv, Instr.field, underlying, ht, hf, asAgg, part, run_isAgg' hag, hu]

end

end Go.Ev

/-
  Bytes made a text; the least and the most of some numbers.
-/
import Derived.Test.YtcnipahcheooiaaE17
namespace Go.Ev
open Go
set_option linter.unusedSectionVars false
set_option linter.unusedSimpArgs false
set_option linter.unusedVariables false
variable [Frame]

section
variable {P : Program} {cx : Cx} {gs : List Nat} {w : World} {R : Refs} {H : Heap} {env : Env} {a : Act}

theorem bytes_loop {P : Program} {w : World} {f : Value → ByteArray → Sem (ForInStep ByteArray)} (hf : ∀ n s, f (.int .u8 n) s = pure (ForInStep.yield (s.push (UInt8.ofNat n.toNat)))) : ∀ (l : List Int) (s : ByteArray),
   (forIn (m := Sem) (l.map fun n => Value.int .u8 n) s f).run P w = .ok ⟨s.data ++ (l.map fun n => UInt8.ofNat n.toNat).toArray⟩ w
  | [], s => by simp
  | n :: l, s => by
    rw [List.map_cons, List.forIn_cons, hf]
    simp only [pure_bind]
    rw [bytes_loop hf l]
    simp [ByteArray.push]

theorem run_bytesToString {ad : Addr} {len c : Nat} {l : List Int} {w : World} (h : (loadCells ad len).run P w = .ok (l.map fun n => Value.int .u8 n).toArray w) :
    (Conv.bytesToString (.slice (some ad) len c)).run P w = .ok (.string ⟨(l.map fun n => UInt8.ofNat n.toNat).toArray⟩) w := by
  simp only [Conv.bytesToString, Sem.run_bind, h, Result.andThen_ok]
  rw [List.forIn_toArray]
  rw [bytes_loop (fun _ _ => rfl) l ByteArray.empty]
  simp

theorem bytesOf_spec : ∀ {rows : List (List PV)} {s : List UInt8}, bytesOf rows = some s → ∃ l : List Int, rows = (l.map fun n => [PV.int .u8 n]) ∧ s = l.map fun n => UInt8.ofNat n.toNat
  | [], s, h => by simp [bytesOf] at h; exact ⟨[], rfl, by simp [h]⟩
  | row :: r, s, h => by
    unfold bytesOf at h
    split at h
    · rename_i e; cases e
    · rename_i q n r' e
      cases e
      cases hb : bytesOf r with
      | none => rw [hb] at h; cases h
      | some t =>
        rw [hb] at h; cases h
        obtain ⟨l, rfl, rfl⟩ := bytesOf_spec hb
        exact ⟨n :: l, rfl, rfl⟩
    · cases h

theorem ones_ok : ∀ l : List Int, szOK 1 (l.map fun n => [PV.int .u8 n]) = true
  | [] => rfl
  | n :: l => by simp [szOK, ones_ok l]

theorem ok_toStr (hH : HRel w R H) (hE : ERel w R H env a.tmps) (hG : GlobOK cx gs w (Xof H R)) {o : Oper} {src dst el : TypeId} {x : Operand} {x' : Opd} {e : Eff}
    (ho : o.op = .convert src dst x) (hs : P.underlying src = some (.slice el)) (hel : P.underlying el = some (.int .u8)) (hd : P.underlying dst = some .string) (hx : mOpd gs x x' = true) (he : evOp cx env H (.toStr x') = some e) : OpOK P o a w R H e := by
  have rx := opd_rep hE hG hx
  simp only [evOp] at he
  generalize hp : opd cx env x' = pv at rx he
  generalize hv : a.eval x = v at rx
  split at he <;> first | (cases he; done) | skip
  rename_i rows ids hq hrows
  split at he <;> cases he
  rename_i s hb
  obtain ⟨l, rfl, rfl⟩ := bytesOf_spec hb
  have hR := rowsIn_rep (P := P) hH hrows (ones_ok l) rx
  obtain ⟨arr, h1, h2, h3⟩ := hR.first (l.map fun n => [PV.int .u8 n]).length (Nat.le_refl _)
  have hlen : ∃ (ad : Option Addr) (c : Nat), v = .slice ad l.length c := by
    have hl := hR.len w
    unfold rowsIn at hrows
    split at hrows
    · have e := (Prod.mk.inj (Option.some.inj hrows)).1
      cases rx with
      | nul _ ad =>
        have : l = [] := by simpa using e.symm
        subst this; exact ⟨ad, 0, rfl⟩
    · cases rx with
      | ro0 _ ad c =>
        refine ⟨ad, c, ?_⟩
        simp [Builtin.lenOf] at hl
        rw [hl]
      | ro _ k o sz _ c vs =>
        refine ⟨some ⟨k, o, none⟩, c, ?_⟩
        simp [Builtin.lenOf] at hl
        rw [hl]
    · rename_i id off len cl
      have hvo : validO H id cl = true := by
        unfold validO
        cases hg : hget H id with
        | none => rw [hg] at hrows; cases hrows
        | some b =>
          rw [hg] at hrows
          cases b <;> simp only at hrows <;> first | (cases hrows; done) | skip
          all_goals
            split at hrows <;> first | (cases hrows; done) | skip
            simp only
            assumption
      obtain ⟨r, hr, hcl', hbx, hcase⟩ := own_real hH hvo rx
      rcases hcase with ⟨k, base, c, cs, et, fr, hk, b1, b2, b3, hw, b4, rfl⟩ | ⟨rfl, rfl, ad, rfl⟩
      · refine ⟨some ⟨k, base + off * r.sz, none⟩, c, ?_⟩
        simp [Builtin.lenOf] at hl
        rw [← hl]
      · refine ⟨ad, 0, ?_⟩
        simp [Builtin.lenOf] at hl
        rw [← hl]
    · cases hq
    · cases hrows
  obtain ⟨ad, c, rfl⟩ := hlen
  have harr : arr = (l.map fun n => Value.int .u8 n).toArray := by
    apply Array.ext'
    apply List.ext_getElem?
    intro i
    by_cases hi : i < l.length
    · obtain ⟨u, u1, u2, u3⟩ := h3.2 i [PV.int .u8 l[i]] 0 (.int .u8 l[i]) (by simp [hi]) rfl
      rw [Nat.mul_one, Nat.zero_add, Nat.add_zero] at u1
      cases u3
      simp [u1, hi]
    · have : arr.size = l.length := by simpa using h2
      simp [hi]
      omega
  subst harr
  have hrun : (Conv.bytesToString (.slice ad l.length c)).run P w = .ok (.string ⟨(l.map fun n => UInt8.ofNat n.toNat).toArray⟩) w := by
    cases ad with
    | none =>
      have := h1 w rfl
      cases l with
      | nil => simp [Conv.bytesToString]; rfl
      | cons n l => simp [Builtin.firstCells] at this
    | some ad =>
      have := h1 w rfl
      refine run_bytesToString ?_
      simpa [Builtin.firstCells] using this
  refine OpOK.pure hH (v := .string ⟨(l.map fun n => UInt8.ofNat n.toNat).toArray⟩) ?_ (.str _ _)
  simp [execOp, ho, hv, convert, underlying, hs, hd, hel, hrun]

theorem run_most {P : Program} {w : World} : ∀ (l : List Int) (x : Int), ((l.map fun n => Value.int .i64 n).foldlM (m := Sem) Builtin.max2 (.int .i64 x)).run P w = .ok (.int .i64 (mostOf x l)) w
  | [], x => by simp [mostOf]
  | y :: l, x => by
    rw [List.map_cons, List.foldlM_cons]
    simp only [Builtin.max2, pure_bind, mostOf]
    exact run_most l _
theorem run_least {P : Program} {w : World} : ∀ (l : List Int) (x : Int), ((l.map fun n => Value.int .i64 n).foldlM (m := Sem) Builtin.min2 (.int .i64 x)).run P w = .ok (.int .i64 (leastOf x l)) w
  | [], x => by simp [leastOf]
  | y :: l, x => by
    rw [List.map_cons, List.foldlM_cons]
    simp only [Builtin.min2, pure_bind, leastOf]
    exact run_least l _

def mOpdL (gs : List Nat) : List Operand → List Opd → Bool
  | [], [] => true
  | x :: r, y :: s => mOpd gs x y && mOpdL gs r s
  | _, _ => false

theorem ints_rep (hE : ERel w R H env a.tmps) (hG : GlobOK cx gs w (Xof H R)) : ∀ {xs : List Operand} {ys : List Opd} {l : List Int}, mOpdL gs xs ys = true → intsOf (opds cx env ys) = some l → xs.map a.eval = l.map fun n => Value.int .i64 n
  | [], [], l, _, h => by simp [opds, intsOf] at h; subst h; rfl
  | [], _ :: _, _, h, _ => by simp [mOpdL] at h
  | _ :: _, [], _, h, _ => by simp [mOpdL] at h
  | x :: xs, y :: ys, l, hm, h => by
    simp only [mOpdL, Bool.and_eq_true] at hm
    have rx := opd_rep hE hG hm.1
    simp only [opds] at h
    generalize hp : opd cx env y = p at rx h
    generalize hv : a.eval x = v at rx
    unfold intsOf at h
    split at h
    · rename_i e; cases e
    · rename_i n r e
      cases e
      cases hi : intsOf (opds cx env ys) with
      | none => rw [hi] at h; cases h
      | some t =>
        rw [hi] at h; cases h
        cases rx
        rw [List.map_cons, hv, ints_rep hE hG hm.2 hi]; rfl
    · cases h

theorem ok_most (hH : HRel w R H) (hE : ERel w R H env a.tmps) (hG : GlobOK cx gs w (Xof H R)) {o : Oper} {c : Call} {ys : List Opd} {e : Eff}
    (ho : o.op = .call c) (hc : c.callee = .builtin .max) (hx : mOpdL gs c.args.toList ys = true) (he : evOp cx env H (.most ys) = some e) : OpOK P o a w R H e := by
  simp only [evOp] at he
  split at he <;> cases he
  rename_i x r hi
  have hm := ints_rep hE hG hx hi
  refine OpOK.pure hH (v := .int .i64 (mostOf x r)) ?_ (.int _ _ _)
  have := run_most (P := P) (w := w) r x
  rw [List.map_cons] at hm
  simp [execOp, ho, resolve, hc, invoke, builtin, Builtin.max_, hm, this]

theorem ok_least (hH : HRel w R H) (hE : ERel w R H env a.tmps) (hG : GlobOK cx gs w (Xof H R)) {o : Oper} {c : Call} {ys : List Opd} {e : Eff}
    (ho : o.op = .call c) (hc : c.callee = .builtin .min) (hx : mOpdL gs c.args.toList ys = true) (he : evOp cx env H (.least ys) = some e) : OpOK P o a w R H e := by
  simp only [evOp] at he
  split at he <;> cases he
  rename_i x r hi
  have hm := ints_rep hE hG hx hi
  refine OpOK.pure hH (v := .int .i64 (leastOf x r)) ?_ (.int _ _ _)
  have := run_least (P := P) (w := w) r x
  rw [List.map_cons] at hm
  simp [execOp, ho, resolve, hc, invoke, builtin, Builtin.min_, hm, this]

end

end Go.Ev

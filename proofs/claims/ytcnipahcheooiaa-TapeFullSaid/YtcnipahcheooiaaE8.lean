/-
  Arithmetic and comparisons: each comes to the value that the evaluator gives.
-/
import Derived.Test.YtcnipahcheooiaaE7
namespace Go.Ev
open Go
set_option linter.unusedSectionVars false
set_option linter.unusedSimpArgs false
set_option linter.unusedVariables false
variable [Frame]

section
variable {P : Program} {cx : Cx} {gs : List Nat} {w : World} {R : Refs} {H : Heap} {env : Env} {a : Act}

theorem bytes_beq (s t : List UInt8) : ((⟨s.toArray⟩ : ByteArray) == (⟨t.toArray⟩ : ByteArray)) = decide (s = t) := by
  rw [beq_toListBytes, ByteArray.toList_eq, ByteArray.toList_eq]
  simp
  by_cases h : s = t <;> simp [h]

theorem int_bin {op : BinOp} {k : IntKind} {x y : Int} {p : PV} (h : intBin op k x y = some p) (t : TypeId) :
    ∃ v, (binOp op t (.int k x) (.int k y)).run P w = .ok v w ∧ Rep w (Xof H R) R p v := by
  cases op <;> simp only [intBin] at h <;> first | (cases h; done) | skip
  · cases h; exact ⟨_, by simp [binOp, Op.intArith], .int R _ _⟩
  · cases h; exact ⟨_, by simp [binOp, Op.intArith], .int R _ _⟩
  · cases h; exact ⟨_, by simp [binOp, Op.intArith], .int R _ _⟩
  · split at h <;> cases h
    rename_i hy
    exact ⟨_, by simp [binOp, Op.intDiv, hy], .int R _ _⟩
  · split at h <;> cases h
    rename_i hy
    exact ⟨_, by simp [binOp, Op.intDiv, hy], .int R _ _⟩
  · cases h; exact ⟨_, by simp [binOp, Op.intBits], .int R _ _⟩
  · cases h; exact ⟨_, by simp [binOp, Op.intBits], .int R _ _⟩
  · cases h; exact ⟨_, by simp [binOp, Op.intBits], .int R _ _⟩
  · cases h; exact ⟨_, by simp [binOp, Op.intBits], .int R _ _⟩
  · cases h; exact ⟨_, by simp [binOp, Op.intCmp], .bool R _⟩
  · cases h; exact ⟨_, by simp [binOp, Op.intCmp], .bool R _⟩
  · cases h; exact ⟨_, by simp [binOp, Op.intCmp], .bool R _⟩
  · cases h; exact ⟨_, by simp [binOp, Op.intCmp], .bool R _⟩

/-- Which types are held against each other cell by cell: the cells' kinds. -/
def eqFs (P : Program) (eq : TypeId → Option (List EK)) : List Field → Nat → Option (List EK)
  | [], _ => some []
  | f :: r, off =>
    if f.name = "_" then none else if f.offset = off then
      match eq f.type with
      | some ks => if tySize P f.type = some ks.length then
          match eqFs P eq r (off + ks.length) with
          | some l => some (ks ++ l)
          | none => none
        else none
      | none => none
    else none
def eqTy (P : Program) : Nat → TypeId → Option (List EK)
  | 0, _ => none
  | d + 1, t => match P.underlying t with
    | some .bool => some [.b]
    | some (.int _) => some [.i]
    | some .string => some [.s]
    | some (.struct fs) => if P.stoodInHeld t then none else eqFs P (eqTy P d) fs.toList 0
    | _ => none

/-- A value of a type that is one of those, told by its cells. -/
def CellsOf (P : Program) (w : World) (X : Nat → Prop) (R : Refs) (t : TypeId) (v : Value) (cs : List PV) : Prop :=
  (tyAgg P t = some true ∧ ∃ arr, v = .agg arr ∧ arr.size = cs.length ∧ ∀ (i : Nat) p u, cs[i]? = some p → arr[i]? = some u → Rep w X R p u) ∨
  (tyAgg P t = some false ∧ ∃ p, cs = [p] ∧ Rep w X R p v)

theorem eqk_append : ∀ {k1 k2 : List EK} {a b : List PV} {r : Bool}, eqk (k1 ++ k2) a b = some r →
    ∃ x y, eqk k1 (a.take k1.length) (b.take k1.length) = some x ∧ eqk k2 (a.drop k1.length) (b.drop k1.length) = some y ∧ r = (x && y)
  | [], k2, a, b, r, h => ⟨true, r, by simp [eqk], by simpa using h, by simp⟩
  | k :: k1, k2, a, b, r, h => by
    rw [List.cons_append] at h
    unfold eqk at h
    split at h <;> first | (cases h; done) | skip
    · exact absurd (by assumption) (List.cons_ne_nil _ _)
    · rename_i k' l' _ _ _ _ _ _ _ heq
      cases heq
      split at h <;> first | (cases h; done) | skip
      rename_i hkl
      split at h <;> cases h
      rename_i x hx
      obtain ⟨u, v, e1, e2, rfl⟩ := eqk_append hx
      exact ⟨_, v, by simp [eqk, hkl, e1]; rfl, by simpa using e2, by simp [Bool.and_assoc]⟩
    · rename_i heq
      cases heq
      split at h <;> cases h
      rename_i x hx
      obtain ⟨u, v, e1, e2, rfl⟩ := eqk_append hx
      exact ⟨_, v, by simp [eqk, e1]; rfl, by simpa using e2, by simp [Bool.and_assoc]⟩
    · rename_i heq
      cases heq
      split at h <;> cases h
      rename_i x hx
      obtain ⟨u, v, e1, e2, rfl⟩ := eqk_append hx
      exact ⟨_, v, by simp [eqk, e1]; rfl, by simpa using e2, by simp [Bool.and_assoc]⟩

theorem eqk_len : ∀ {ks : List EK} {a b : List PV} {r : Bool}, eqk ks a b = some r → a.length = ks.length ∧ b.length = ks.length
  | [], a, b, r, h => by
    unfold eqk at h
    split at h <;> first | (cases h; done) | simp_all
  | k :: ks, a, b, r, h => by
    unfold eqk at h
    split at h <;> first | (cases h; done) | skip
    · exact absurd (by assumption) (List.cons_ne_nil _ _)
    · rename_i heq
      cases heq
      split at h <;> first | (cases h; done) | skip
      split at h <;> cases h
      rename_i hx
      have := eqk_len hx
      simp [this]
    · rename_i heq
      cases heq
      split at h <;> cases h
      rename_i hx
      have := eqk_len hx
      simp [this]
    · rename_i heq
      cases heq
      split at h <;> cases h
      rename_i hx
      have := eqk_len hx
      simp [this]

theorem list_beq (s t : List UInt8) : (s == t) = decide (s = t) := by by_cases h : s = t <;> simp [h]
theorem eqk_nil {ks : List EK} {z : Bool} (h : eqk ks [] [] = some z) : z = true := by
  cases ks with
  | nil => simp [eqk] at h; exact h
  | cons k ks => cases k <;> simp [eqk] at h

theorem tyAgg_eq {t : TypeId} {d : TypeDesc} (h : P.underlying t = some d) : tyAgg P t = some (match (generalizing := false) d with | .struct _ | .array _ _ => true | _ => false) := by
  unfold tyAgg; rw [h]; rfl

theorem part_cells {X : Nat → Prop} {t : TypeId} {arr : Array Value} {cs : List PV} {off n : Nat} (hsz : tySize P t = some n) {b : Bool} (hag : tyAgg P t = some b) (h1 : b = false → n = 1)
    (hl : arr.size = cs.length) (hn : off + n ≤ cs.length) (hr : ∀ (i : Nat) p u, cs[i]? = some p → arr[i]? = some u → Rep w X R p u) :
    ∃ v, (part t arr off).run P w = .ok v w ∧ CellsOf P w X R t v ((cs.drop off).take n) := by
  have hlen : ((cs.drop off).take n).length = n := by simp; omega
  cases b with
  | true =>
    refine ⟨.agg (arr.extract off (off + n)), by simp [part, run_isAgg' hag, run_sizeOf' hsz], .inl ⟨hag, _, rfl, by rw [hlen]; simp; omega, fun i p u hp hu => ?_⟩⟩
    have hp' : cs[off + i]? = some p := by
      rw [List.getElem?_take] at hp
      split at hp
      · simpa using hp
      · cases hp
    exact hr _ p u hp' (extract_get hu)
  | false =>
    have := h1 rfl
    subst this
    have hlt : off < arr.size := by omega
    have hlc : off < cs.length := by omega
    refine ⟨arr[off], by simp [part, run_isAgg' hag, hlt], .inr ⟨hag, cs[off], ?_, hr off _ _ (by simp) (by simp [hlt])⟩⟩
    rw [List.drop_eq_getElem_cons hlc]
    rfl

theorem eqTy_one {d : Nat} {t : TypeId} {ks : List EK} (h : eqTy P d t = some ks) (hag : tyAgg P t = some false) : ks.length = 1 := by
  cases d with
  | zero => simp [eqTy] at h
  | succ d =>
    simp only [eqTy] at h
    split at h <;> first | (cases h; done) | skip
    · cases h; rfl
    · cases h; rfl
    · cases h; rfl
    · rename_i hu; rw [tyAgg_eq hu] at hag; cases hag

theorem eqTy_agg {d : Nat} {t : TypeId} {ks : List EK} (h : eqTy P d t = some ks) : ∃ b, tyAgg P t = some b := by
  cases d with
  | zero => simp [eqTy] at h
  | succ d =>
    simp only [eqTy] at h
    split at h <;> first | (cases h; done) | skip
    all_goals (rename_i hu; exact ⟨_, tyAgg_eq hu⟩)

theorem equal_run {X : Nat → Prop} : ∀ (d D : Nat) (t : TypeId) (ks : List EK) (x y : Value) (p q : List PV) (r : Bool), d ≤ D → eqTy P d t = some ks →
    CellsOf P w X R t x p → CellsOf P w X R t y q → eqk ks p q = some r → (Op.equalIn D t x y).run P w = .ok r w
  | 0, _, _, _, _, _, _, _, _, _, h, _, _, _ => by simp [eqTy] at h
  | d + 1, 0, _, _, _, _, _, _, _, h, _, _, _, _ => by omega
  | d + 1, D + 1, t, ks, x, y, p, q, r, hd, h, hx, hy, he => by
    simp only [eqTy] at h
    split at h <;> first | (cases h; done) | skip
    · rename_i hu
      cases h
      have hag := tyAgg_eq hu
      rcases hx with ⟨h1, _⟩ | ⟨_, p0, rfl, hx⟩
      · rw [hag] at h1; cases h1
      rcases hy with ⟨h1, _⟩ | ⟨_, q0, rfl, hy⟩
      · rw [hag] at h1; cases h1
      cases p0 <;> cases q0 <;> simp [eqk] at he
      subst he
      cases hx; cases hy
      simp [Op.equalIn, underlying, hu]
    · rename_i hu
      cases h
      have hag := tyAgg_eq hu
      rcases hx with ⟨h1, _⟩ | ⟨_, p0, rfl, hx⟩
      · rw [hag] at h1; cases h1
      rcases hy with ⟨h1, _⟩ | ⟨_, q0, rfl, hy⟩
      · rw [hag] at h1; cases h1
      cases p0 <;> cases q0 <;> simp [eqk] at he
      obtain ⟨rfl, rfl⟩ := he
      cases hx; cases hy
      simp [Op.equalIn, underlying, hu]
      rfl
    · rename_i hu
      cases h
      have hag := tyAgg_eq hu
      rcases hx with ⟨h1, _⟩ | ⟨_, p0, rfl, hx⟩
      · rw [hag] at h1; cases h1
      rcases hy with ⟨h1, _⟩ | ⟨_, q0, rfl, hy⟩
      · rw [hag] at h1; cases h1
      cases p0 <;> cases q0 <;> simp [eqk] at he
      subst he
      cases hx; cases hy
      simp [Op.equalIn, underlying, hu, bytes_beq]
    · rename_i fs hu
      split at h <;> first | (cases h; done) | skip
      rename_i hst
      have hag := tyAgg_eq hu
      obtain ⟨_, xs, rfl, hxl, hxr⟩ := hx.resolve_right (fun h1 => by rw [hag] at h1; cases h1.1)
      obtain ⟨_, ys, rfl, hyl, hyr⟩ := hy.resolve_right (fun h1 => by rw [hag] at h1; cases h1.1)
      have hf : P.fieldsOf t = fs := by simp [Program.fieldsOf, hu]
      rw [run_equalIn_struct w D t xs ys (by rw [hf]; exact hu) (by simpa using hst), hf]
      have hlp := eqk_len he
      -- the fields, one by one
      have go : ∀ (l : List Field) (off : Nat) (ks : List EK) (r : Bool), eqFs P (eqTy P d) l off = some ks → off + ks.length = p.length →
          eqk ks (p.drop off) (q.drop off) = some r → (Op.eqFields D xs ys l).run P w = .ok r w := by
        intro l
        induction l with
        | nil =>
          intro off ks r h1 h2 h3
          simp [eqFs] at h1
          subst h1
          simp at h2
          have e1 : p.drop off = [] := List.drop_eq_nil_of_le (by omega)
          have e2 : q.drop off = [] := List.drop_eq_nil_of_le (by omega)
          rw [e1, e2] at h3
          simp [eqk] at h3
          simp [Op.eqFields, h3]
        | cons f l ih =>
          intro off ks r h1 h2 h3
          simp only [eqFs] at h1
          split at h1 <;> first | (cases h1; done) | skip
          rename_i hn
          split at h1 <;> first | (cases h1; done) | skip
          rename_i hoff
          cases hk : eqTy P d f.type with
          | none => rw [hk] at h1; cases h1
          | some k1 =>
            rw [hk] at h1
            simp only at h1
            split at h1 <;> first | (cases h1; done) | skip
            rename_i hsz
            split at h1 <;> cases h1
            rename_i k2 hk2
            obtain ⟨u, v, e1, e2, rfl⟩ := eqk_append h3
            simp at h2
            obtain ⟨b, hb⟩ := eqTy_agg hk
            obtain ⟨vx, rx, cx'⟩ := part_cells (P := P) (w := w) (R := R) (X := X) (off := off) hsz hb (fun e => by subst e; exact eqTy_one hk hb) hxl (by omega) hxr
            obtain ⟨vy, ry, cy'⟩ := part_cells (P := P) (w := w) (R := R) (X := X) (off := off) hsz hb (fun e => by subst e; exact eqTy_one hk hb) hyl (by omega) hyr
            have hrun := equal_run d D f.type k1 vx vy _ _ u (by omega) hk cx' cy' e1
            have htail := ih (off + k1.length) k2 v hk2 (by omega) (by simpa only [List.drop_drop] using e2)
            simp only [Op.eqFields, if_pos hn, hoff, Sem.run_bind, rx, ry, hrun, Result.andThen_ok]
            cases u
            · simp
            · simp [htail]
      exact go fs.toList 0 ks r h (by simp [hlp.1]) (by simpa using he)

theorem eqGuard_plain {op : BinOp} {t : TypeId} {x y : Operand} {u v : Value} (h1 : ∀ a, u ≠ .agg a) (h2 : u ≠ .nilIface) : (eqGuard op t x y u v).run P w = .ok () w := by
  unfold eqGuard
  cases u <;> cases op <;> first | (exact absurd rfl (h1 _)) | (exact absurd rfl h2) | simp

theorem eqGuard_agg {op : BinOp} {t : TypeId} {x y : Operand} {p q : Array Value} (h : P.eqGuardType P.depth t = false) : (eqGuard op t x y (.agg p) (.agg q)).run P w = .ok () w := by
  unfold eqGuard
  cases op <;> simp [h]

theorem str_add {s1 s2 : List UInt8} (hlen : s1.length + s2.length ≤ 9223372036854775807) (t : TypeId) :
    (binOp .add t (.string ⟨s1.toArray⟩) (.string ⟨s2.toArray⟩)).run P w = .ok (.string ⟨(s1 ++ s2).toArray⟩) w := by
  have hmax : ¬ (IntKind.i64.max < (s1.length : Int) + s2.length) := by
    have : IntKind.i64.max = 9223372036854775807 := by decide
    rw [this]; omega
  have happ : (⟨s1.toArray⟩ : ByteArray) ++ ⟨s2.toArray⟩ = ⟨(s1 ++ s2).toArray⟩ := by
    apply ByteArray.ext; simp
  simp [binOp, Op.stringOp, size_mk, happ]
  omega

theorem ok_bin (hH : HRel w R H) (hE : ERel w R H env a.tmps) (hG : GlobOK cx gs w (Xof H R)) {o : Oper} {op : BinOp} {t u : TypeId} {x y : Operand} {x' y' : Opd} {e : Eff}
    (ho : o.op = .binOp op t x y u) (hx : mOpd gs x x' = true) (hy : mOpd gs y y' = true) (he : evOp cx env H (.bin op x' y') = some e) : OpOK P o a w R H e := by
  have rx := opd_rep hE hG hx
  have ry := opd_rep hE hG hy
  simp only [evOp] at he
  generalize hp : opd cx env x' = pv at rx he
  generalize hv : a.eval x = v at rx
  generalize hq : opd cx env y' = qv at ry he
  generalize hu : a.eval y = uv at ry
  cases hb : binv op pv qv with
  | none => rw [hb] at he; cases he
  | some p =>
    rw [hb] at he; cases he
    have fin : ∀ z, (∀ a, v ≠ .agg a) → v ≠ .nilIface → (binOp op t v uv).run P w = .ok z w → Rep w (Xof H R) R p z → OpOK P o a w R H ⟨p, [], []⟩ := by
      intro z h1 h2 h3 h4
      refine OpOK.pure hH (v := z) ?_ h4
      simp [execOp, ho, hv, hu, eqGuard_plain h1 h2, h3]
    unfold binv at hb
    split at hb
    · split at hb <;> first | (cases hb; done) | skip
      split at hb <;> cases hb
      rename_i hneg
      cases rx; cases ry
      exact fin _ (fun _ h => by cases h) (fun h => by cases h) (by simp [binOp, Op.shift, hneg]) (.int R _ _)
    · split at hb <;> first | (cases hb; done) | skip
      split at hb <;> cases hb
      rename_i hneg
      cases rx; cases ry
      exact fin _ (fun _ h => by cases h) (fun h => by cases h) (by simp [binOp, Op.shift, hneg]) (.int R _ _)
    · split at hb <;> first | (cases hb; done) | skip
      · split at hb <;> first | (cases hb; done) | skip
        rename_i hkl
        subst hkl
        cases rx; cases ry
        obtain ⟨z, h1, h2⟩ := int_bin (P := P) (w := w) (R := R) (H := H) hb t
        exact fin z (fun _ h => by cases h) (fun h => by cases h) h1 h2
      · split at hb <;> first | (cases hb; done) | skip
        split at hb <;> cases hb
        rename_i hlen
        cases rx; cases ry
        refine fin _ (fun _ h => by cases h) (fun h => by cases h) ?_ (.str R _)
        exact str_add (P := P) (w := w) hlen t

theorem ok_eq (hH : HRel w R H) (hE : ERel w R H env a.tmps) (hG : GlobOK cx gs w (Xof H R)) {o : Oper} {neg agg : Bool} {t u : TypeId} {x y : Operand} {x' y' : Opd} {ks : List EK} {e : Eff}
    (ho : o.op = .binOp (if neg then .neq else .eql) t x y u) (hks : eqTy P 100 t = some ks) (hag : tyAgg P t = some agg) (hgu : P.eqGuardType P.depth t = false)
    (hx : mOpd gs x x' = true) (hy : mOpd gs y y' = true) (he : evOp cx env H (.eq neg agg ks x' y') = some e) : OpOK P o a w R H e := by
  have rx := opd_rep hE hG hx
  have ry := opd_rep hE hG hy
  simp only [evOp] at he
  generalize hp : opd cx env x' = pv at rx he
  generalize hv : a.eval x = v at rx
  generalize hq : opd cx env y' = qv at ry he
  generalize hu : a.eval y = uv at ry
  split at he <;> first | (cases he; done) | skip
  rename_i p q h1 h2
  cases hk : eqk ks p q with
  | none => rw [hk] at he; cases he
  | some b =>
    rw [hk] at he; cases he
    have cells : ∀ {pv : PV} {v : Value} {p : List PV}, Rep w (Xof H R) R pv v → eqcells agg pv = some p → CellsOf P w (Xof H R) R t v p := by
      intro pv v p hr hc
      cases agg with
      | false => simp [eqcells] at hc; subst hc; exact .inr ⟨hag, _, rfl, hr⟩
      | true =>
        cases pv <;> simp [eqcells] at hc
        subst hc
        cases hr with
        | agg _ _ arr hl _ hh => exact .inl ⟨hag, arr, rfl, hl, hh⟩
    have cx1 := cells rx h1
    have cy1 := cells ry h2
    have hrun : (Op.equal t v uv).run P w = .ok b w := by
      unfold Op.equal
      exact equal_run 100 Op.maxDepth t ks v uv p q b (by decide) hks cx1 cy1 hk
    have hguard : (eqGuard (if neg then .neq else .eql) t x y v uv).run P w = .ok () w := by
      rcases cx1 with ⟨_, arr, rfl, _⟩ | ⟨_, p0, rfl, hr0⟩
      · rcases cy1 with ⟨_, arr', rfl, _⟩ | ⟨h3, _⟩
        · exact eqGuard_agg hgu
        · rename_i h4 _ _; rw [h4] at h3; cases h3
      · have : ∃ q0, q = [q0] := by
          have := (eqk_len hk)
          have h1 : ks.length = 1 := by simpa using this.1.symm
          rw [h1] at this
          exact List.length_eq_one_iff.1 this.2
        obtain ⟨q0, rfl⟩ := this
        refine eqGuard_plain ?_ ?_
        · intro arr e
          subst e
          cases hr0 <;> (unfold eqk at hk; split at hk <;> first | (cases hk; done) | (simp_all; done))
        · intro e
          subst e
          cases hr0 <;> (unfold eqk at hk; split at hk <;> first | (cases hk; done) | (simp_all; done))
    refine OpOK.pure hH (v := .bool (flip neg b)) ?_ (.bool R _)
    have hbin : (binOp (if neg then .neq else .eql) t v uv).run P w = .ok (.bool (flip neg b)) w := by
      have viaEqual : (∀ k n, v ≠ .int k n) → (∀ s, v ≠ .string s) → (∀ k f, v ≠ .float k f) → (∀ k r i, v ≠ .complex k r i) → (binOp (if neg then .neq else .eql) t v uv).run P w = .ok (.bool (flip neg b)) w := by
        intro n1 n2 n3 n4
        cases neg <;> (unfold binOp; split <;> first | (exact absurd rfl (n1 _ _)) | (exact absurd rfl (n2 _)) | (exact absurd rfl (n3 _ _)) | (exact absurd rfl (n4 _ _ _)) | (simp_all; done) | simp [hrun, flip])
      rcases cx1 with ⟨_, arr, rfl, _⟩ | ⟨_, p0, rfl, hr0⟩
      · exact viaEqual (fun _ _ h => by cases h) (fun _ h => by cases h) (fun _ _ h => by cases h) (fun _ _ _ h => by cases h)
      · have h1 : q.length = 1 := by
          have := (eqk_len hk)
          rw [this.2, ← this.1]; rfl
        obtain ⟨q0, rfl⟩ := List.length_eq_one_iff.1 h1
        rcases cy1 with ⟨h3, _⟩ | ⟨_, q1, e1, hr1⟩
        · rename_i h4 _ _; rw [h4] at h3; cases h3
        cases e1
        unfold eqk at hk
        split at hk <;> first | (cases hk; done) | skip
        · simp_all
        · rename_i e1 e2; cases e1; cases e2
          split at hk <;> first | (cases hk; done) | skip
          rename_i hkl
          subst hkl
          split at hk <;> cases hk
          rename_i z hz
          cases hr0; cases hr1
          obtain rfl := eqk_nil hz
          cases neg <;> simp [binOp, Op.intCmp, flip] <;> rfl
        · rename_i e1 e2; cases e1; cases e2
          cases hr0
          exact viaEqual (fun _ _ h => by cases h) (fun _ h => by cases h) (fun _ _ h => by cases h) (fun _ _ _ h => by cases h)
        · rename_i e1 e2; cases e1; cases e2
          split at hk <;> cases hk
          rename_i z hz
          cases hr0; cases hr1
          obtain rfl := eqk_nil hz
          cases neg <;> simp [binOp, Op.stringOp, ByteArray.toList_eq, flip, list_beq]
    simp [execOp, ho, hv, hu, hguard, hbin]

end

end Go.Ev

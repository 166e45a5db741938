/-
  The checker: is this operation of the compact form that operation of the program's?
-/
import Derived.Test.YtcnipahcheooiaaE21
import Derived.Test.YtcnipahcheooiaaE39
namespace Go.Ev
open Go
set_option linter.unusedSectionVars false
set_option linter.unusedSimpArgs false
set_option linter.unusedVariables false
variable [Frame]

def sliceEl (P : Program) (t : TypeId) : Option TypeId :=
  match P.underlying t with
  | some (.slice el) => some el
  | _ => none
def arrayEl (P : Program) (t : TypeId) : Option (Nat × TypeId) :=
  match P.underlying t with
  | some (.array n el) => some (n, el)
  | _ => none
def isStr (P : Program) (t : TypeId) : Bool :=
  match P.underlying t with
  | some .string => true
  | _ => false
def intTy (P : Program) (t : TypeId) : Option IntKind :=
  match P.underlying t with
  | some (.int k) => some k
  | _ => none
def fieldOf (P : Program) (t : TypeId) (i : Nat) : Option Field :=
  match P.underlying t with
  | some (.struct fs) => fs[i]?
  | _ => none
def isPlain (P : Program) (t : TypeId) : Bool :=
  match P.underlying t with
  | some (.interface _) => false
  | some _ => true
  | none => false
def mZero (P : Program) (t : TypeId) (z : List PV) : Bool :=
  match P.info? t with
  | some i => match i.zero with
    | some v => mConstL v.cells.toList z
    | none => false
  | none => false
/-- The same, with how many cells and bytes a value has. -/
def mZeroS (P : Program) (t : TypeId) (z : List PV) (sz bytes : Nat) : Bool :=
  match P.info? t with
  | some i => match i.zero with
    | some v => mConstL v.cells.toList z && Nat.beq i.size sz && Nat.beq i.bytes bytes
    | none => false
  | none => false
def mBuild (P : Program) (gs : List Nat) (t : TypeId) (xs : Array (Nat × Operand)) (z : List PV) (ps : List (Nat × Nat × Opd)) : Bool :=
  match P.info? t, P.underlying t with
  | some it, some (.array _ e) => match it.zero, P.info? e with
    | some v, some ie => mConstL v.cells.toList z && mParts gs (fun i => some (i * ie.size, ie.size)) xs.toList ps
    | _, _ => false
  | some it, some (.struct fields) => match it.zero, fields.toList.mapM (fun f => (P.info? f.type).map fun i => (f.offset, i.size)) with
    | some v, some places => mConstL v.cells.toList z && mParts gs (places.toArray[·]?) xs.toList ps
    | _, _ => false
  | _, _ => false
/-- The size of an element, how many bytes it has; is it whole? -/
def mElem (P : Program) (el : TypeId) (sz bytes : Nat) : Bool :=
  match P.info? el with
  | some i => match i.zero with
    | some v => Nat.beq i.size sz && Nat.beq i.bytes bytes && Nat.beq v.cells.size sz && Nat.blt 0 bytes
    | none => false
  | none => false
def mBuiltin (o : Oper) (b : Builtin) : Option Call :=
  match o.op with
  | .call c => match c.callee with
    | .builtin b' => if b = b' then some c else none
    | _ => none
  | _ => none
def oneArg (c : Call) : Option (Operand × TypeId) :=
  match c.args.toList, c.argTypes[0]? with
  | [x], some t => some (x, t)
  | _, _ => none
def twoArgs (c : Call) : Option (Operand × Operand × TypeId × TypeId) :=
  match c.args.toList, c.argTypes[0]?, c.argTypes[1]? with
  | [x, y], some t, some u => some (x, y, t, u)
  | _, _, _ => none
def calleeIs (c : Call) (f : FuncId) : Bool :=
  match c.callee with
  | .value (.func g) => decide (g = f)
  | _ => false

def mOp (P : Program) (gs : List Nat) (o : Oper) : IOp → Bool
  | .mov y => match o.op with
    | .move x => mOpd gs x y
    | .assign x => mOpd gs x y
    | _ => false
  | .pick c' x' y' => match o.op with
    | .pick c x y => mOpd gs c c' && mOpd gs x x' && mOpd gs y y'
    | _ => false
  | .alloc _ z => match o.op with
    | .alloc t => mZero P t z
    | _ => false
  | .box _ x' => match o.op with
    | .box _ x => mOpd gs x x'
    | _ => false
  | .build z ps => match o.op with
    | .build t xs => mBuild P gs t xs z ps
    | _ => false
  | .bslice _ esz ys => match o.op with
    | .buildSlice t n xs => match sliceEl P t with
      | some el => match P.info? el with
        | some i => i.zero.isSome && Nat.beq i.size esz && Nat.blt 0 esz && Nat.beq n xs.size && Nat.ble (n * esz) 16777216 && mElems gs 0 xs.toList ys
        | none => false
      | none => false
    | _ => false
  | .load sz agg x' => match o.op with
    | .load t x => decide (tySize P t = some sz) && decide (tyAgg P t = some agg) && (!agg || Nat.blt 0 sz) && mOpd gs x x'
    | _ => false
  | .store sz x' y' => match o.op with
    | .store t x y => decide (tySize P t = some sz) && o.dst.isNone && mOpd gs x x' && mOpd gs y y'
    | _ => false
  | .nilchk x' => match o.op with
    | .nilCheck x => mOpd gs x x'
    | _ => false
  | .bin op x' y' => match o.op with
    | .binOp op' _ x y _ => decide (op' = op) && mOpd gs x x' && mOpd gs y y'
    | _ => false
  | .eq neg agg ks x' y' => match o.op with
    | .binOp op t x y _ => decide (op = (if neg then .neq else .eql)) && decide (eqTy P 100 t = some ks) && decide (tyAgg P t = some agg) && !(P.eqGuardType P.depth t) && mOpd gs x x' && mOpd gs y y'
    | _ => false
  | .un op x' => match o.op with
    | .unOp op' _ x => decide (op' = op) && mOpd gs x x'
    | _ => false
  | .toInt k x' => match o.op with
    | .convert src dst x => (intTy P src).isSome && decide (intTy P dst = some k) && mOpd gs x x'
    | _ => false
  | .same x' => match o.op with
    | .convert src dst x => isStr P src && isStr P dst && mOpd gs x x'
    | _ => false
  | .mkf f caps' => match o.op with
    | .makeFunc (.func g) a caps => decide (g = f) && Nat.beq a.size 0 && mOpds gs caps.toList caps'
    | _ => false
  | .mki t x' => match o.op with
    | .makeInterface u x => decide (u = t) && isPlain P t && mOpd gs x x'
    | _ => false
  | .mksl _ esb z l' c' => match o.op with
    | .makeSlice t l c => match sliceEl P t with
      | some el => mZeroS P el z z.length esb && Nat.blt 0 z.length && Nat.blt 0 esb && mOpd gs l l' && mOpd gs c c'
      | none => false
    | _ => false
  | .slcS x' lo' hi' => match o.op with
    | .slice t x lo hi none => isStr P t && mOpd gs x x' && mOpt gs lo lo' && mOpt gs hi hi'
    | _ => false
  | .slc esz x' lo' hi' mx' => match o.op with
    | .slice t x lo hi mx => match sliceEl P t with
      | some el => decide (tySize P el = some esz) && mOpd gs x x' && mOpt gs lo lo' && mOpt gs hi hi' && mOpt gs mx mx' && (!mx'.isSome || hi'.isSome)
      | none => false
    | _ => false
  | .faddr off x' => match o.op with
    | .fieldAddr t x i => match fieldOf P t i with
      | some f => Nat.beq f.offset off && (match tySize P f.type with | some n => Nat.blt 0 n | none => false) && mOpd gs x x'
      | none => false
    | _ => false
  | .field off sz agg x' => match o.op with
    | .field t x i => match fieldOf P t i with
      | some f => Nat.beq f.offset off && decide (tySize P f.type = some sz) && decide (tyAgg P f.type = some agg) && mOpd gs x x'
      | none => false
    | _ => false
  | .iaddr esz x' ix' => match o.op with
    | .indexAddr t x ix => match sliceEl P t with
      | some el => decide (tySize P el = some esz) && mOpd gs x x' && mOpd gs ix ix'
      | none => false
    | _ => false
  | .iaddrA n esz x' ix' => match o.op with
    | .indexAddr t x ix => match arrayEl P t with
      | some (m, el) => Nat.beq m n && decide (tySize P el = some esz) && mOpd gs x x' && mOpd gs ix ix'
      | none => false
    | _ => false
  | .idxS x' ix' => match o.op with
    | .index t x ix => isStr P t && mOpd gs x x' && mOpd gs ix ix'
    | _ => false
  | .ext x' i => match o.op with
    | .extract x j => Nat.beq j i && mOpd gs x x'
    | _ => false
  | .len x' => match mBuiltin o .len with
    | some c => match oneArg c with
      | some (x, t) => (sliceEl P t).isSome && mOpd gs x x'
      | none => false
    | none => false
  | .lenS x' => match mBuiltin o .len with
    | some c => match oneArg c with
      | some (x, t) => isStr P t && mOpd gs x x'
      | none => false
    | none => false
  | .app _ esz esb x' y' => match mBuiltin o .append with
    | some c => match twoArgs c with
      | some (x, y, t, u) => match sliceEl P t with
        | some el => mElem P el esz esb && ((sliceEl P u).isSome || isStr P u) && mOpd gs x x' && mOpd gs y y'
        | none => false
      | none => false
    | none => false
  | .copy esz x' y' => match mBuiltin o .copy with
    | some c => match twoArgs c with
      | some (x, y, t, _) => match sliceEl P t with
        | some el => decide (tySize P el = some esz) && mOpd gs x x' && mOpd gs y y'
        | none => false
      | none => false
    | none => false
  | .clear _ z x' => match mBuiltin o .clear with
    | some c => match oneArg c with
      | some (x, t) => match sliceEl P t with
        | some el => mZero P el z && mOpd gs x x'
        | none => false
      | none => false
    | none => false
  | .call f as _ _ => match o.op with
    | .call c => calleeIs c f && plainModes as && mArgs gs c.args.toList as
    | _ => false
  | .callv fx' as _ _ => match o.op with
    | .call c => match c.callee with
      | .value fx => mOpd gs fx fx' && plainModes as && mArgs gs c.args.toList as
      | _ => false
    | _ => false
  | .most ys => match mBuiltin o .max with
    | some c => mOpdL gs c.args.toList ys
    | none => false
  | .least ys => match mBuiltin o .min with
    | some c => mOpdL gs c.args.toList ys
    | none => false
  | .toStr x' => match o.op with
    | .convert src dst x => match sliceEl P src with
      | some el => match intTy P el with
        | some .u8 => isStr P dst && mOpd gs x x'
        | _ => false
      | none => false
    | _ => false
  | .rng _ x' => match o.op with
    | .range t x => isStr P t && mOpd gs x x'
    | _ => false
  | .nxt x' => match o.op with
    | .next x b => b && mOpd gs x x'
    | _ => false
  | _ => false

theorem sliceEl_spec {P : Program} {t el : TypeId} (h : sliceEl P t = some el) : P.underlying t = some (.slice el) := by
  unfold sliceEl at h; split at h <;> cases h; assumption
theorem arrayEl_spec {P : Program} {t el : TypeId} {n : Nat} (h : arrayEl P t = some (n, el)) : P.underlying t = some (.array n el) := by
  unfold arrayEl at h; split at h <;> cases h; assumption
theorem isStr_spec {P : Program} {t : TypeId} (h : isStr P t = true) : P.underlying t = some .string := by
  unfold isStr at h; split at h <;> first | (cases h; done) | assumption
theorem intTy_spec {P : Program} {t : TypeId} {k : IntKind} (h : intTy P t = some k) : P.underlying t = some (.int k) := by
  unfold intTy at h; split at h <;> cases h; assumption
theorem fieldOf_spec {P : Program} {t : TypeId} {i : Nat} {f : Field} (h : fieldOf P t i = some f) : ∃ fs, P.underlying t = some (.struct fs) ∧ fs[i]? = some f := by
  unfold fieldOf at h; split at h <;> first | (cases h; done) | exact ⟨_, by assumption, h⟩
theorem isPlain_spec {P : Program} {t : TypeId} (h : isPlain P t = true) : ∃ d, P.underlying t = some d ∧ ∀ ms, d ≠ .interface ms := by
  unfold isPlain at h
  split at h <;> first | (cases h; done) | skip
  rename_i d hne hd
  exact ⟨d, hd, fun ms e => hne ms (by rw [← e])⟩
theorem mZero_spec {P : Program} {t : TypeId} {z : List PV} (h : mZero P t z = true) : ∃ i v, P.info? t = some i ∧ i.zero = some v ∧ mConstL v.cells.toList z = true := by
  unfold mZero at h
  split at h <;> first | (cases h; done) | skip
  split at h <;> first | (cases h; done) | skip
  exact ⟨_, _, by assumption, by assumption, h⟩
theorem mZeroS_spec {P : Program} {t : TypeId} {z : List PV} {sz b : Nat} (h : mZeroS P t z sz b = true) : ∃ i v, P.info? t = some i ∧ i.zero = some v ∧ mConstL v.cells.toList z = true ∧ i.size = sz ∧ i.bytes = b := by
  unfold mZeroS at h
  split at h <;> first | (cases h; done) | skip
  split at h <;> first | (cases h; done) | skip
  simp only [Bool.and_eq_true] at h
  exact ⟨_, _, by assumption, by assumption, h.1.1, nbeq_iff.1 h.1.2, nbeq_iff.1 h.2⟩
theorem blt_iff {a b : Nat} : Nat.blt a b = true ↔ a < b := by simp [Nat.blt_eq]
theorem mElem_spec {P : Program} {el : TypeId} {sz b : Nat} (h : mElem P el sz b = true) : ∃ i v, P.info? el = some i ∧ i.zero = some v ∧ i.size = sz ∧ i.bytes = b ∧ v.cells.size = sz ∧ 0 < b := by
  unfold mElem at h
  split at h <;> first | (cases h; done) | skip
  split at h <;> first | (cases h; done) | skip
  simp only [Bool.and_eq_true] at h
  exact ⟨_, _, by assumption, by assumption, nbeq_iff.1 h.1.1.1, nbeq_iff.1 h.1.1.2, nbeq_iff.1 h.1.2, blt_iff.1 h.2⟩
theorem mBuiltin_spec {o : Oper} {b : Builtin} {c : Call} (h : mBuiltin o b = some c) : o.op = .call c ∧ c.callee = .builtin b := by
  unfold mBuiltin at h
  split at h <;> first | (cases h; done) | skip
  split at h <;> first | (cases h; done) | skip
  split at h <;> cases h
  subst_vars
  exact ⟨by assumption, by assumption⟩
theorem oneArg_spec {c : Call} {x : Operand} {t : TypeId} (h : oneArg c = some (x, t)) : c.args = #[x] ∧ c.argTypes[0]? = some t := by
  unfold oneArg at h
  split at h <;> cases h
  exact ⟨by apply Array.ext'; assumption, by assumption⟩
theorem twoArgs_spec {c : Call} {x y : Operand} {t u : TypeId} (h : twoArgs c = some (x, y, t, u)) : c.args = #[x, y] ∧ c.argTypes[0]? = some t ∧ c.argTypes[1]? = some u := by
  unfold twoArgs at h
  split at h <;> cases h
  exact ⟨by apply Array.ext'; assumption, by assumption, by assumption⟩
theorem size0 {α : Type} {a : Array α} (h : Nat.beq a.size 0 = true) : a = #[] := by
  have := nbeq_iff.1 h
  simpa using this
theorem calleeIs_spec {c : Call} {f : FuncId} (h : calleeIs c f = true) : c.callee = .value (.func f) := by
  unfold calleeIs at h
  split at h <;> first | (cases h; done) | skip
  rename_i g hc
  have := of_decide_eq_true h
  subst this
  exact hc

end Go.Ev

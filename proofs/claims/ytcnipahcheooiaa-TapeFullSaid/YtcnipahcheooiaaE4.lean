/-
  The compact form held against the model's code, operation by operation; operands; what an operation leaves behind it.
-/
import Derived.Test.YtcnipahcheooiaaE3
namespace Go.Ev
open Go
set_option linter.unusedSectionVars false
set_option linter.unusedSimpArgs false
set_option linter.unusedVariables false
variable [Frame]

/-! ### Types -/
def tySize (P : Program) (t : TypeId) : Option Nat := (P.info? t).map (·.size)
def tyAgg (P : Program) (t : TypeId) : Option Bool := (P.underlying t).map fun d => match d with | .struct _ | .array _ _ => true | _ => false

theorem run_sizeOf' {P : Program} {t : TypeId} {n : Nat} (h : tySize P t = some n) (w : World) : (sizeOf t).run P w = .ok n w := by
  unfold tySize at h
  cases hi : P.info? t with
  | none => rw [hi] at h; cases h
  | some i => rw [hi] at h; cases h; simp [sizeOf, typeInfo, hi]
theorem run_underlying' {P : Program} {t : TypeId} {d : TypeDesc} (h : P.underlying t = some d) (w : World) : (underlying t).run P w = .ok d w := by
  simp [underlying, h]
theorem run_isAgg' {P : Program} {t : TypeId} {b : Bool} (h : tyAgg P t = some b) (w : World) : (isAgg t).run P w = .ok b w := by
  unfold tyAgg at h
  cases hu : P.underlying t with
  | none => rw [hu] at h; cases h
  | some d => rw [hu] at h; cases h; cases d <;> simp [isAgg, underlying, hu]

/-! ### Operands -/
def mConst1 : Value → PV → Bool
  | .int k n, .int l m => decide (k = l) && decide (n = m)
  | .bool a, .bool b => decide (a = b)
  | .string s, .str l => decide (s.data.toList = l)
  | .slice none 0 0, .nul => true
  | .pointer none, .nilp => true
  | .nilFunc, .nilf => true
  | .nilIface, .nili => true
  | _, _ => false
def mConstL : List Value → List PV → Bool
  | [], [] => true
  | v :: r, p :: s => mConst1 v p && mConstL r s
  | _, _ => false
def mConst : Value → PV → Bool
  | .agg arr, .agg cs => mConstL arr.toList cs
  | .tuple arr, .undef => arr.isEmpty
  | .func (.func f) a b, .func g c => decide (f = g) && a.isEmpty && b.isEmpty && c.isEmpty
  | v, p => mConst1 v p
def mOpd (gs : List Nat) : Operand → Opd → Bool
  | .tmp t, .t u => decide (t = u)
  | .const v, .c p => mConst v p
  | .func f, .c (.func g c) => decide (f = g) && c.isEmpty
  | .global g, .g h => decide (g = h) && decide (g ∈ gs)
  | _, _ => false

theorem bytes_eta (s : ByteArray) : (⟨s.data.toList.toArray⟩ : ByteArray) = s := by cases s; simp

theorem mConst1_rep {w : World} {X : Nat → Prop} {R : Refs} {v : Value} {p : PV} (h : mConst1 v p = true) : Rep w X R p v ∧ v.oneCell' = true := by
  unfold mConst1 at h
  split at h <;> first | (simp at h; done) | skip
  · simp at h; obtain ⟨rfl, rfl⟩ := h; exact ⟨.int R _ _, rfl⟩
  · simp at h; subst h; exact ⟨.bool R _, rfl⟩
  · rename_i s l
    have h := of_decide_eq_true h
    subst h
    refine ⟨?_, rfl⟩
    have := Rep.str (w := w) (X := X) R s.data.toList
    rwa [bytes_eta] at this
  · exact ⟨.nul R _, rfl⟩
  · exact ⟨.nilp R, rfl⟩
  · exact ⟨.nilf R, rfl⟩
  · exact ⟨.nili R, rfl⟩

theorem mConstL_rep {w : World} {X : Nat → Prop} {R : Refs} : ∀ {vs : List Value} {ps : List PV}, mConstL vs ps = true →
    vs.length = ps.length ∧ ∀ (i : Nat) (p : PV) (v : Value), ps[i]? = some p → vs[i]? = some v → Rep w X R p v ∧ v.oneCell' = true
  | [], [], _ => ⟨rfl, fun i p v hp => by simp at hp⟩
  | v :: r, p :: s, h => by
    simp [mConstL] at h
    obtain ⟨hl, ih⟩ := mConstL_rep (w := w) (X := X) (R := R) h.2
    refine ⟨by simp [hl], fun i p' v' hp hv => ?_⟩
    cases i with
    | zero => simp at hp hv; subst hp; subst hv; exact mConst1_rep h.1
    | succ i => simp at hp hv; exact ih i p' v' hp hv
  | [], _ :: _, h => by simp [mConstL] at h
  | _ :: _, [], h => by simp [mConstL] at h

theorem mConst_rep {w : World} {X : Nat → Prop} {R : Refs} {v : Value} {p : PV} (h : mConst v p = true) : Rep w X R p v := by
  unfold mConst at h
  split at h
  · rename_i arr cs
    obtain ⟨hl, hh⟩ := mConstL_rep (w := w) (X := X) (R := R) h
    have hl' : arr.size = cs.length := by simpa using hl
    refine .agg R cs arr hl' (fun i v hv => ?_) (fun i pv v hp hv => (hh i pv v hp (by simpa using hv)).1)
    have hi : i < arr.size := (Array.getElem?_eq_some_iff.1 hv).1
    exact (hh i cs[i] v (by simp) (by simpa using hv)).2
  · rename_i arr
    have : arr = #[] := by simpa using h
    subst this
    exact .undef R
  · rename_i f a b g c
    simp at h
    obtain ⟨⟨⟨rfl, rfl⟩, rfl⟩, rfl⟩ := h
    exact .func R f [] #[] rfl (fun i v hv => by simp at hv) (fun i pv v hp => by simp at hp)
  · exact (mConst1_rep h).1

/-- The package-level tables lie where the model has them. -/
def GlobOK (cx : Cx) (gs : List Nat) (w : World) (X : Nat → Prop) : Prop :=
  ∀ g ∈ gs, Rep w X noRefs (.rptr (cx.glob g)) (.pointer (some ⟨g, 0, none⟩))

theorem opd_rep {cx : Cx} {gs : List Nat} {w : World} {R : Refs} {H : Heap} {env : Env} {a : Act} (hE : ERel w R H env a.tmps)
    (hG : GlobOK cx gs w (Xof H R)) {x : Operand} {y : Opd} (h : mOpd gs x y = true) : Rep w (Xof H R) R (opd cx env y) (a.eval x) := by
  unfold mOpd at h
  split at h
  · have := of_decide_eq_true h; subst this; exact hE _
  · exact mConst_rep h
  · rename_i f g c
    simp at h
    obtain ⟨rfl, rfl⟩ := h
    exact .func R f [] #[] rfl (fun i v hv => by simp at hv) (fun i pv v hp => by simp at hp)
  · rename_i g h'
    simp at h
    obtain ⟨rfl, hg⟩ := h
    exact (hG g hg).up
  · cases h

/-! ### What an operation leaves -/
structure Post (w : World) (R : Refs) (H : Heap) (e : Eff) (v : Value) (w' : World) (R' : Refs) : Prop where
  heap : HRel w' R' (hsets e.upd H)
  ext : RExt R R'
  grow : Grow w (Own H R) w'
  out : ∀ k, k < w.heap.size → ¬ Xof H R k → ¬ Xof (hsets e.upd H) R' k
  val : Rep w' (Xof (hsets e.upd H) R') R' e.v v

/-- The operation comes to its value. -/
def OpOK (P : Program) (o : Oper) (a : Act) (w : World) (R : Refs) (H : Heap) (e : Eff) : Prop :=
  ∀ (next : Act → World → Prop) (Q : Exit → Act → World → Prop),
    (∀ v w' R', Post w R H e v w' R' → next (a.put o.dst v) w') → o.upon P a next Q ((execOp a.eval o).run P w)

theorem OpOK.of_run {P : Program} {o : Oper} {a : Act} {w w' : World} {R R' : Refs} {H : Heap} {e : Eff} {v : Value}
    (hr : (execOp a.eval o).run P w = .ok (.value v) w') (hp : Post w R H e v w' R') : OpOK P o a w R H e := by
  intro next Q h
  rw [hr]
  exact h v w' R' hp

theorem Post.pure {w : World} {R : Refs} {H : Heap} {pv : PV} {rd : List Nat} {v : Value} (hH : HRel w R H)
    (hv : Rep w (Xof H R) R pv v) : Post w R H ⟨pv, [], rd⟩ v w R :=
  ⟨hH, RExt.refl R, Grow.refl w _, fun _ _ h => h, hv⟩

theorem OpOK.pure {P : Program} {o : Oper} {a : Act} {w : World} {R : Refs} {H : Heap} {pv : PV} {rd : List Nat} {v : Value} (hH : HRel w R H)
    (hr : (execOp a.eval o).run P w = .ok (.value v) w) (hv : Rep w (Xof H R) R pv v) : OpOK P o a w R H ⟨pv, [], rd⟩ :=
  OpOK.of_run hr (Post.pure hH hv)

/-! ### A value's cells -/
theorem mcells_rep {w : World} {X : Nat → Prop} {R : Refs} {pv : PV} {v : Value} {cs : List PV} (h : Rep w X R pv v) (hc : mcells pv = some cs) :
    v.cells.size = cs.length ∧ ∀ (j : Nat) (p : PV), cs[j]? = some p → ∃ u, v.cells[j]? = some u ∧ u.oneCell' = true ∧ Rep w X R p u := by
  have one : ∀ {pv : PV} {v : Value}, Rep w X R pv v → cellV pv = true → (∀ a, v ≠ .agg a) → mcells pv = some cs → (mcells pv = some [pv]) →
      v.cells.size = cs.length ∧ ∀ (j : Nat) (p : PV), cs[j]? = some p → ∃ u, v.cells[j]? = some u ∧ u.oneCell' = true ∧ Rep w X R p u := by
    intro pv v hr hcv hna h1 h2
    rw [h2] at h1; cases h1
    have hv : v.cells = #[v] := by cases v <;> first | rfl | exact absurd rfl (hna _)
    rw [hv]
    refine ⟨rfl, fun j p hj => ?_⟩
    cases j with
    | zero => simp at hj; subst hj; exact ⟨v, rfl, hr.oneCell hcv, hr⟩
    | succ j => simp at hj
  by_cases hcv : cellV pv = true
  · refine one h hcv ?_ hc ?_
    · intro a e; subst e
      cases h <;> first | (simp [cellV] at hcv; done) | (rename_i h1; simp [Value.oneCell'] at h1)
    · cases pv <;> first | (simp [mcells, cellV]; done) | (simp [cellV] at hcv)
  · cases pv <;> first | (simp [mcells, cellV] at hc; done) | (simp [cellV] at hcv; done) | skip
    rename_i cells
    simp [mcells] at hc; subst hc
    cases h with
    | agg _ _ arr hl h1 hh =>
      refine ⟨hl, fun j p hj => ?_⟩
      have hjl : j < cells.length := by
        rcases Nat.lt_or_ge j cells.length with h | h
        · exact h
        · rw [List.getElem?_eq_none h] at hj; cases hj
      have hja : j < arr.size := by omega
      exact ⟨arr[j], by simp [Value.cells, hja], h1 j _ (by simp [hja]), hh j p _ hj (by simp [hja])⟩

end Go.Ev

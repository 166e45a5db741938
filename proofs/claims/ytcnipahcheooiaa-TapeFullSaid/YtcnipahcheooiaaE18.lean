/-
  The border of a call: what is handed over, what comes back.
-/
import Derived.Test.YtcnipahcheooiaaE17
namespace Go.Ev
open Go
set_option linter.unusedSectionVars false
set_option linter.unusedSimpArgs false
set_option linter.unusedVariables false

/-- A slice handed over with its memory. -/
inductive FreshR (w : World) (Z : Nat → Prop) (sz : Nat) (rows : List (List PV)) : Value → List Nat → Prop
  | none (ad : Option Addr) (h : rows = []) : FreshR w Z sz rows (.slice ad 0 0) []
  | some (k base c : Nat) (cs : Array Value) (et : TypeId) (hw : w.heap[k]? = some (.cells cs et (0, 0))) (hc : rows.length ≤ c) (hs : base + c * sz ≤ cs.size) (hr : RowsAt w Z cs base sz rows) :
      FreshR w Z sz rows (.slice (some ⟨k, base, none⟩) rows.length c) [k]

def isBorder : PV → Bool
  | .fresh _ _ | .io _ => true
  | _ => false

/-- A value at the border. -/
inductive CellR (w : World) (Z : Nat → Prop) : PV → Value → List Nat → Prop
  | plain (pv : PV) (v : Value) (hn : isBorder pv = false) (h : Rep w Z noRefs pv v) : CellR w Z pv v []
  | fresh (sz : Nat) (rows : List (List PV)) (v : Value) (ks : List Nat) (h : FreshR w Z sz rows v ks) : CellR w Z (.fresh sz rows) v ks

/-- Values, side by side. -/
inductive ListR (w : World) (Z : Nat → Prop) : List PV → List Value → List Nat → Prop
  | nil : ListR w Z [] [] []
  | cons (p : PV) (v : Value) (k1 : List Nat) (ps : List PV) (vs : List Value) (k2 : List Nat) (h : CellR w Z p v k1) (hr : ListR w Z ps vs k2) : ListR w Z (p :: ps) (v :: vs) (k1 ++ k2)

/-- A result. -/
inductive RetR (w : World) (Z : Nat → Prop) : PV → Value → List Nat → Prop
  | one (p : PV) (v : Value) (ks : List Nat) (hn : ∀ vs, p ≠ .tuple vs) (h : CellR w Z p v ks) : RetR w Z p v ks
  | tuple (ps : List PV) (arr : Array Value) (ks : List Nat) (h : ListR w Z ps arr.toList ks) : RetR w Z (.tuple ps) (.tuple arr) ks

/-- A call of this function with these arguments ends with this answer. -/
def AnsOK (P : Program) (glob : Nat → List PV) (gs : List Nat) (f : FuncId) (args : List PV) (r : PV) : Prop :=
  ∀ (Z : Nat → Prop) (w : World) (vs : Array Value) (ks : List Nat),
    (∀ k, Z k → k < w.heap.size) → (∀ k ∈ ks, Z k) → ks.Nodup → (∀ g ∈ gs, Rep w Z noRefs (.rptr (glob g)) (.pointer (some ⟨g, 0, none⟩))) → ListR w Z args vs.toList ks →
    Calls P f vs w fun e w' => ∃ v, e = .returned v ∧ Grow w (fun k => k ∈ ks) w' ∧
      ∃ (Z' : Nat → Prop) (ks' : List Nat), (∀ k, Z k → k ∉ ks → Z' k) ∧ (∀ k ∈ ks', Z' k ∧ (k ∈ ks ∨ w.heap.size ≤ k)) ∧ (∀ k, Z' k → k < w'.heap.size) ∧ ks'.Nodup ∧ RetR w' Z' r v ks'

/-- The function of that number is the program's own. -/
def ownFn (P : Program) (f : FuncId) : Bool :=
  match P.funcs[f]? with
  | some fn => fn.body.isSome && !(fn.name == "runtime.NumGoroutine")
  | none => false

/-- What is known of a call where no variable is lent. -/
def FnOK (P : Program) (glob : Nat → List PV) (gs : List Nat) (call : FuncId → List PV → Option (PV × List (List PV))) (f : FuncId) : Prop :=
  ∀ (args : List PV) (r : PV), call f args = some (r, []) → ownFn P f = true ∧ AnsOK P glob gs f args r

variable [Frame]

theorem FreshR.mono {w w' : World} {Z Z' : Nat → Prop} {sz : Nat} {rows : List (List PV)} {v : Value} {ks : List Nat} (h : FreshR w Z sz rows v ks) (hk : ∀ k ∈ ks, w'.heap[k]? = w.heap[k]?)
    (hG : Grow w Z w') (hX : ∀ k, k < w.heap.size → ¬ Z k → ¬ Z' k) : FreshR w' Z' sz rows v ks := by
  cases h with
  | none ad h => exact .none ad h
  | some k base c cs et hw hc hs hr => exact .some k base c cs et ((hk k (.head _)).trans hw) hc hs (hr.mono hG hX)

theorem hasAll_spec {H : Heap} : ∀ {l : List Nat}, hasAll H l = true → ∀ i ∈ l, ∃ b, hget H i = some b ∧ deadB b = false
  | [], _, i, hi => by cases hi
  | j :: r, h, i, hi => by
    simp only [hasAll] at h
    split at h <;> first | (cases h; done) | skip
    rename_i b hne hj
    cases hi with
    | head => exact ⟨b, hj, by cases b <;> first | rfl | exact absurd rfl hne⟩
    | tail _ hi => exact hasAll_spec h i hi

section
variable {w : World} {R : Refs} {H : Heap}

/-- The blocks of memory that are shown. -/
def ShownK (R : Refs) (ids : List Nat) : Nat → Prop := fun k => ∃ i ∈ ids, ∃ r o, R i = some r ∧ r.blk = some (k, o)
/-- What is written by nobody but the one who is called. -/
def Zof (H : Heap) (R : Refs) (seen : List Nat) : Nat → Prop := fun k => Xof H R k ∧ ¬ ShownK R seen k

theorem shown_Z (seen : List Nat) : Shown w R H (Zof H R seen) seen :=
  ⟨fun _ hk => .inl hk.1, fun i hi r k o hr hk hx => hx.2 ⟨i, hi, r, o, hr, hk⟩⟩

theorem clo_border {p q : PV} {ids : List Nat} (h : clo H p = some (q, ids)) : isBorder q = false := by
  have h1 : ∀ {p q : PV} {ids : List Nat}, clo1 H p = some (q, ids) → isBorder q = false := by
    intro p q ids h
    unfold clo1 at h
    split at h <;> first | (cases h; done) | (cases h; rfl) | skip
    · split at h <;> first | (cases h; done) | skip
      · split at h <;> cases h; rfl
      · split at h <;> cases h; rfl
    · cases h
      cases p <;> first | rfl | (simp_all; done)
  have hP : ∀ {p q : PV} {ids : List Nat}, cloP H p = some (q, ids) → isBorder q = false := by
    intro p q ids h
    unfold cloP at h
    split at h
    · split at h <;> first | (cases h; done) | skip
      split at h <;> first | (cases h; done) | skip
      split at h <;> cases h
      rfl
    · exact h1 h
  have h2 : ∀ {p q : PV} {ids : List Nat}, clo2 H p = some (q, ids) → isBorder q = false := by
    intro p q ids h
    unfold clo2 at h
    split at h
    · cases hl : cloL H ‹_› <;> rw [hl] at h <;> cases h; rfl
    · cases hl : cloPs H ‹_› <;> rw [hl] at h <;> cases h; rfl
    · cases hl : cloL H ‹_› <;> rw [hl] at h <;> cases h; rfl
    · cases hl : clo1 H ‹_› <;> rw [hl] at h <;> cases h; rfl
    · exact hP h
  unfold clo at h
  split at h
  · cases hl : clo2s H ‹_› <;> rw [hl] at h <;> cases h; rfl
  · exact h2 h

/-- The blocks of memory of some blocks. -/
inductive KsOf (R : Refs) : List Nat → List Nat → Prop
  | nil : KsOf R [] []
  | skip (i : Nat) (ids ks : List Nat) (h : KsOf R ids ks) : KsOf R (i :: ids) ks
  | take (i : Nat) (ids : List Nat) (r : RB) (k o : Nat) (ks : List Nat) (hr : R i = some r) (hk : r.blk = some (k, o)) (h : KsOf R ids ks) : KsOf R (i :: ids) (k :: ks)

theorem KsOf.append {a b x y : List Nat} (h : KsOf R a x) (h' : KsOf R b y) : KsOf R (a ++ b) (x ++ y) := by
  induction h with
  | nil => exact h'
  | skip i ids ks _ ih => exact .skip i _ _ ih
  | take i ids r k o ks hr hk _ ih => exact .take i _ r k o _ hr hk ih

theorem KsOf.mem {ids ks : List Nat} (h : KsOf R ids ks) : ∀ k ∈ ks, ∃ i ∈ ids, ∃ r o, R i = some r ∧ r.blk = some (k, o) := by
  induction h with
  | nil => intro k hk; cases hk
  | skip i ids ks _ ih => intro k hk; obtain ⟨j, hj, rest⟩ := ih k hk; exact ⟨j, .tail _ hj, rest⟩
  | take i ids r k o ks hr hk _ ih =>
    intro k' hk'
    cases hk' with
    | head => exact ⟨i, .head _, r, o, hr, hk⟩
    | tail _ hk' => obtain ⟨j, hj, rest⟩ := ih k' hk'; exact ⟨j, .tail _ hj, rest⟩

theorem KsOf.nodup (hH : HRel w R H) {ids ks : List Nat} (h : KsOf R ids ks) (hn : ids.Nodup) (hl : ∀ i ∈ ids, ∃ b, hget H i = some b ∧ deadB b = false) : ks.Nodup := by
  induction h with
  | nil => exact List.nodup_nil
  | skip i ids ks _ ih => exact ih (List.nodup_cons.1 hn).2 fun j hj => hl j (.tail _ hj)
  | take i ids r k o ks hr hk h ih =>
    obtain ⟨h1, h2⟩ := List.nodup_cons.1 hn
    refine List.nodup_cons.2 ⟨fun hm => ?_, ih h2 fun j hj => hl j (.tail _ hj)⟩
    obtain ⟨j, hj, r', o', hr', hk'⟩ := h.mem k hm
    obtain ⟨b, hb, hd⟩ := hl i (.head _)
    obtain ⟨b', hb', hd'⟩ := hl j (.tail _ hj)
    have := hH.inj i j b b' r r' k o o' hb hb' hd hd' hr hr' hk hk'
    subst this
    exact h1 hj

theorem RowsAt.sub {Z Z' : Nat → Prop} {cs : Array Value} {base sz : Nat} {rows : List (List PV)} (h : RowsAt w Z cs base sz rows) (hs : ∀ k, Z' k → Z k) : RowsAt w Z' cs base sz rows :=
  h.mono (Grow.refl w _) fun k _ hn hz => hn (hs k hz)

theorem mov1_rep (hH : HRel w R H) {esz : Nat} {p q : PV} {ids : List Nat} {v : Value} {Z : Nat → Prop} (hZ : ∀ k, Z k → Xof H R k) (h : mov1 H esz p = some (q, ids)) (hv : Rep w (Xof H R) R p v) :
    ∃ ks, CellR w Z q v ks ∧ KsOf R ids ks ∧ ∀ i ∈ ids, ∃ sz rows, hget H i = some (.arr sz rows) := by
  unfold mov1 at h
  split at h <;> first | (cases h; done) | skip
  · cases h; cases hv
    exact ⟨[], .fresh _ _ _ _ (.none _ rfl), .nil, fun i hi => by cases hi⟩
  · rename_i id off len cl
    split at h <;> first | (cases h; done) | skip
    rename_i sz rows hg
    split at h <;> cases h
    rename_i hb
    have hcl := nbeq_iff.1 hb
    have hvo : validO H id cl = true := by unfold validO; rw [hg]; exact hb
    have hids : ∀ i ∈ [id], ∃ sz rows, hget H i = some (.arr sz rows) := fun i hi => by
      cases hi with
      | head => exact ⟨_, _, hg⟩
      | tail _ hi => cases hi
    obtain ⟨r, hr, hrcl, hbx, ⟨k, base, c, cs, et, fr, hk, b1, b2, b3, hw, b4, rfl⟩ | ⟨rfl, rfl, ad, rfl⟩⟩ := own_real hH hvo hv
    · obtain ⟨a1, a2, a3, cs', et', hw', a4, a5⟩ := arr_real hH hg hr hk
      rw [hw] at hw'; cases hw'
      subst a3
      have hlen : ((rows.drop off).take len).length = len := by simp; omega
      have hsub : RowsAt w (Xof H R) cs (base + off * r.sz) r.sz ((rows.drop off).take len) := by
        refine ⟨fun i row hi => ?_, fun i row j pv hi hj => ?_⟩
        · rw [List.getElem?_take] at hi
          split at hi
          · rw [List.getElem?_drop] at hi; exact a5.1 _ row hi
          · cases hi
        · rw [List.getElem?_take] at hi
          split at hi
          · rw [List.getElem?_drop] at hi
            obtain ⟨u, u1, u2, u3⟩ := a5.2 _ row j pv hi hj
            refine ⟨u, ?_, u2, u3⟩
            rw [show base + off * r.sz + i * r.sz + j = base + (off + i) * r.sz + j by rw [Nat.add_mul]; omega]
            exact u1
          · cases hi
      refine ⟨[k], .fresh _ _ _ _ ?_, .take id [] r k base [] hr hk .nil, hids⟩
      have := FreshR.some (w := w) (Z := Z) (sz := r.sz) (rows := (rows.drop off).take len) k (base + off * r.sz) c cs et hw (by omega) (by rw [Nat.add_mul] at b4; omega)
        (RowsAt.sub hsub hZ)
      rwa [hlen] at this
    · refine ⟨[], .fresh _ _ _ _ ?_, .skip id [] [] .nil, hids⟩
      simp only [List.take_zero]
      exact .none ad rfl

def plainMode : Mode → Bool
  | .lend _ => false
  | _ => true
def plainModes : List (Mode × Opd) → Bool
  | [] => true
  | (m, _) :: r => match plainMode m with | true => plainModes r | false => false

theorem args_rep (hH : HRel w R H) {ρ : Opd → PV} {seen : List Nat} : ∀ {as : List (Mode × Opd)} {A : Args} {vs : List Value}, plainModes as = true → args1 H ρ as = some A → (∀ i ∈ A.seen, i ∈ seen) → as.length = vs.length →
    (∀ (i : Nat) (m : Mode) (x : Opd) (v : Value), as[i]? = some (m, x) → vs[i]? = some v → Rep w (Xof H R) R (ρ x) v) →
    A.lent = [] ∧ ∃ ks, ListR w (Zof H R seen) A.vs vs ks ∧ KsOf R A.gone ks ∧ (∀ i ∈ A.gone, ∃ sz rows, hget H i = some (.arr sz rows))
  | [], A, vs, _, h, _, hl, _ => by
    simp [args1] at h; subst h
    have : vs = [] := by simpa using hl.symm
    subst this
    exact ⟨rfl, [], .nil, .nil, fun i hi => by cases hi⟩
  | (m, x) :: as, A, [], _, _, _, hl, _ => by simp at hl
  | (m, x) :: as, A, v :: vs, hm, h, hs, hl, hv => by
    simp only [plainModes] at hm
    split at hm <;> first | (cases hm; done) | skip
    rename_i hm1
    simp only [args1] at h
    split at h <;> first | (cases h; done) | skip
    rename_i a1 ha
    split at h <;> cases h
    rename_i b hb
    obtain ⟨hl2, ks, i1, i2, i3⟩ := args_rep hH (seen := seen) hm hb (fun i hi => hs i (List.mem_append_right _ hi)) (by simpa using hl) (fun i m' x' v' h1 h2 => hv (i + 1) m' x' v' (by simpa using h1) (by simpa using h2))
    have hv0 := hv 0 m x v rfl rfl
    cases m with
    | lend szs => cases hm1
    | shut =>
      simp only [arg1] at ha
      cases hc : clo H (ρ x) with
      | none => rw [hc] at ha; cases ha
      | some q =>
        obtain ⟨q, ids⟩ := q
        rw [hc] at ha; cases ha
        refine ⟨by simpa using hl2, ks, ?_, by simpa using i2, by simpa using i3⟩
        exact .cons q v [] _ _ ks (.plain q v (clo_border hc) (clo_rep hH hc ((shown_Z (w := w) (H := H) seen).mono fun i hi => hs i (List.mem_append_left _ hi)) hv0)) i1
    | move esz =>
      simp only [arg1] at ha
      cases hc : mov1 H esz (ρ x) with
      | none => rw [hc] at ha; cases ha
      | some q =>
        obtain ⟨q, ids⟩ := q
        rw [hc] at ha; cases ha
        obtain ⟨k1, j1, j2, j3⟩ := mov1_rep hH (Z := Zof H R seen) (fun _ hk => hk.1) hc hv0
        refine ⟨by simpa using hl2, k1 ++ ks, .cons q v k1 _ _ ks j1 i1, j2.append i2, fun i hi => ?_⟩
        rcases List.mem_append.1 hi with hi | hi
        · exact j3 i hi
        · exact i3 i hi

end

end Go.Ev

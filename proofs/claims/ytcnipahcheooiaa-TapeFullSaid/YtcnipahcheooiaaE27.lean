/-
  A function: its arguments come in, its results go out.
-/
import Derived.Test.YtcnipahcheooiaaE26
namespace Go.Ev
open Go
set_option linter.unusedSectionVars false
set_option linter.unusedSimpArgs false
set_option linter.unusedVariables false

section
variable [Frame]
variable {w : World}

/-- Each index is its own block's number. -/
def idh : Nat → Nat → List (Nat × Nat)
  | _, 0 => []
  | p, n + 1 => (p, p) :: idh (p + 1) n

theorem adopt_idh : ∀ (n p i : Nat), p ≤ i → i < p + n → ∀ (sz : Nat) (rows : List (List PV)), adopt (idh p n) i (.fresh sz rows) = (.own i 0 rows.length rows.length, [(i, .arr sz rows)])
  | 0, p, i, h1, h2, _, _ => by omega
  | n + 1, p, i, h1, h2, sz, rows => by
    simp only [idh, adopt]
    cases hb : Nat.beq p i with
    | true => have := nbeq_iff.1 hb; subst this; rfl
    | false =>
      have := nbeq_false hb
      exact adopt_idh n (p + 1) i (by omega) (by omega) sz rows

def noIo : PV → Bool
  | .io _ => false
  | _ => true

theorem enter_eq (hints : List (Nat × Nat)) : ∀ (ps : List PV) (p : Nat), (∀ x ∈ ps, noIo x = true) → (∀ i, p ≤ i → i < p + ps.length → ∀ sz rows, adopt hints i (.fresh sz rows) = (.own i 0 rows.length rows.length, [(i, .arr sz rows)])) →
    (enter p ps).2 = (adoptL hints p ps).2 ∧ (∀ i q, (adoptL hints p ps).1[i]? = some q → getT (enter p ps).1 (p + i) = q) ∧ (∀ t, t < p ∨ p + ps.length ≤ t → getT (enter p ps).1 t = .any) ∧
      (keys (adoptL hints p ps).2).Nodup ∧ ∀ j ∈ keys (adoptL hints p ps).2, p ≤ j
  | [], p, _, _ => ⟨rfl, fun i q h => by simp [adoptL] at h, fun t _ => rfl, List.nodup_nil, fun j hj => by cases hj⟩
  | x :: ps, p, hx, hh => by
    obtain ⟨e1, e2, e3, e4, e5⟩ := enter_eq hints ps (p + 1) (fun y hy => hx y (.tail _ hy)) (fun i h1 h2 => hh i (by omega) (by simp; omega))
    have step : ∀ (v : PV) (u : List (Nat × Blk)), adopt hints p x = (v, u) → enter p (x :: ps) = ((p, v) :: (enter (p + 1) ps).1, u ++ (enter (p + 1) ps).2) → (∀ j ∈ keys u, j = p) → (keys u).Nodup →
        (enter p (x :: ps)).2 = (adoptL hints p (x :: ps)).2 ∧ (∀ i q, (adoptL hints p (x :: ps)).1[i]? = some q → getT (enter p (x :: ps)).1 (p + i) = q) ∧ (∀ t, t < p ∨ p + (x :: ps).length ≤ t → getT (enter p (x :: ps)).1 t = .any) ∧
          (keys (adoptL hints p (x :: ps)).2).Nodup ∧ ∀ j ∈ keys (adoptL hints p (x :: ps)).2, p ≤ j := by
      intro v u ha he hu hun
      rw [he]
      simp only [adoptL, ha]
      refine ⟨by rw [e1], fun i q hq => ?_, fun t ht => ?_, ?_, fun j hj => ?_⟩
      · cases i with
        | zero => simp at hq; subst hq; simp [getT]
        | succ i =>
          simp at hq
          have hne : Nat.beq p (p + (i + 1)) = false := by
            cases hb : Nat.beq p (p + (i + 1)) with
            | false => rfl
            | true => have := nbeq_iff.1 hb; omega
          simp only [getT, hne]
          rw [show p + (i + 1) = p + 1 + i by omega]
          exact e2 i q hq
      · have hne : Nat.beq p t = false := by
          cases hb : Nat.beq p t with
          | false => rfl
          | true => have := nbeq_iff.1 hb; simp at ht; omega
        simp only [getT, hne]
        exact e3 t (by simp at ht; omega)
      · rw [keys_append]
        refine List.nodup_append.2 ⟨hun, e4, fun a ha b hb => ?_⟩
        have := hu a ha; have := e5 b hb; omega
      · rw [keys_append] at hj
        rcases List.mem_append.1 hj with h | h
        · have := hu j h; omega
        · have := e5 j h; omega
    cases x with
    | fresh sz rows =>
      refine step _ _ (hh p (Nat.le_refl _) (by simp) sz rows) rfl (fun j hj => ?_) ?_
      · simpa [keys] using hj
      · simp [keys]
    | io cs => have := hx (.io cs) (.head _); cases this
    | _ => exact step _ _ (adopt_plain hints p rfl) rfl (fun j hj => by cases hj) List.nodup_nil

theorem ListR.noIo {Z : Nat → Prop} : ∀ {ps : List PV} {vs : List Value} {ks : List Nat}, ListR w Z ps vs ks → (∀ x ∈ ps, noIo x = true) ∧ ps.length = vs.length
  | [], _, _, h => by cases h; exact ⟨fun x hx => (by cases hx), rfl⟩
  | p :: ps, _, _, h => by
    cases h with
    | cons _ v k1 _ vs k2 hc hr =>
      obtain ⟨h1, h2⟩ := ListR.noIo hr
      refine ⟨fun x hx => ?_, by simp [h2]⟩
      cases hx with
      | head => cases hc with
        | plain _ _ hb _ => cases p <;> first | rfl | cases hb
        | fresh => rfl
      | tail _ hx => exact h1 x hx

theorem lentOf_nil : ∀ {ps : List PV} {p : Nat} {zs : List (List Nat)}, (∀ x ∈ ps, noIo x = true) → lentOf p ps zs = []
  | [], _, _, _ => by unfold lentOf; rfl
  | x :: ps, p, zs, h => by
    have h0 := h x (.head _)
    have ih := fun zs => lentOf_nil (ps := ps) (p := p + 1) (zs := zs) fun y hy => h y (.tail _ hy)
    cases zs with
    | nil => cases x <;> first | (cases h0; done) | exact ih _
    | cons z zs => cases x <;> first | (cases h0; done) | exact ih _

theorem clo2_nt {H : Heap} {p q : PV} {ids : List Nat} (h : clo2 H p = some (q, ids)) : isBorder q = false ∧ ∀ vs, q ≠ .tuple vs := by
  have h1 : ∀ {p q : PV} {ids : List Nat}, clo1 H p = some (q, ids) → isBorder q = false ∧ ∀ vs, q ≠ .tuple vs := by
    intro p q ids h
    unfold clo1 at h
    split at h <;> first | (cases h; done) | (cases h; exact ⟨rfl, fun vs e => by cases e⟩) | skip
    · split at h <;> first | (cases h; done) | skip
      · split at h <;> cases h; exact ⟨rfl, fun vs e => by cases e⟩
      · split at h <;> cases h; exact ⟨rfl, fun vs e => by cases e⟩
    · cases h
      cases p <;> first | exact ⟨rfl, fun vs e => PV.noConfusion e⟩ | (simp_all; done)
  have hP : ∀ {p q : PV} {ids : List Nat}, cloP H p = some (q, ids) → isBorder q = false ∧ ∀ vs, q ≠ .tuple vs := by
    intro p q ids h
    unfold cloP at h
    split at h
    · split at h <;> first | (cases h; done) | skip
      split at h <;> first | (cases h; done) | skip
      split at h <;> cases h
      exact ⟨rfl, fun vs e => by cases e⟩
    · exact h1 h
  unfold clo2 at h
  split at h
  · cases hl : cloL H ‹_› <;> rw [hl] at h <;> cases h; exact ⟨rfl, fun vs e => by cases e⟩
  · cases hl : cloPs H ‹_› <;> rw [hl] at h <;> cases h; exact ⟨rfl, fun vs e => by cases e⟩
  · cases hl : cloL H ‹_› <;> rw [hl] at h <;> cases h; exact ⟨rfl, fun vs e => by cases e⟩
  · cases hl : clo1 H ‹_› <;> rw [hl] at h <;> cases h; exact ⟨rfl, fun vs e => by cases e⟩
  · exact hP h

end

section
variable [Frame]
variable {w : World} {R : Refs} {H : Heap}

theorem give1_rep (hH : HRel w R H) {seen : List Nat} {g : Option Nat} {p q : PV} {x s : List Nat} {v : Value} (h : give1 g H p = some (q, x, s)) (hs : ∀ i ∈ s, i ∈ seen) (hv : Rep w (Xof H R) R p v) :
    (∀ vs, q ≠ .tuple vs) ∧ ∃ ks, CellR w (Zof H R seen) q v ks ∧ KsOf R x ks ∧ ∀ i ∈ x, ∃ sz rows, hget H i = some (.arr sz rows) := by
  have plain : ∀ {q : PV} {x s : List Nat}, (match clo2 H p with | some (a, x) => some (a, [], x) | none => none) = some (q, x, s) → (∀ i ∈ s, i ∈ seen) →
      (∀ vs, q ≠ .tuple vs) ∧ ∃ ks, CellR w (Zof H R seen) q v ks ∧ KsOf R x ks ∧ ∀ i ∈ x, ∃ sz rows, hget H i = some (.arr sz rows) := by
    intro q x s h hs
    split at h <;> cases h
    rename_i hc
    obtain ⟨b1, b2⟩ := clo2_nt hc
    exact ⟨b2, [], .plain _ _ b1 (clo2_rep hH hc ((shown_Z seen).mono hs) hv), .nil, fun i hi => by cases hi⟩
  unfold give1 at h
  split at h
  · cases h; cases hv
    exact ⟨fun vs e => (by cases e), [], .fresh _ _ _ _ (.none _ rfl), .nil, fun i hi => (by cases hi)⟩
  · split at h <;> cases h
    rename_i hm
    obtain ⟨ks, k1, k2, k3⟩ := mov1_rep hH (Z := Zof H R seen) (fun _ hk => hk.1) hm hv
    refine ⟨fun vs e => ?_, ks, k1, k2, k3⟩
    simp only [mov1] at hm
    split at hm <;> first | (cases hm; done) | skip
    split at hm <;> cases hm
    cases e
  · exact plain h hs

theorem gives1_rep (hH : HRel w R H) {seen : List Nat} : ∀ {ps : List PV} {gs : List Nat} {qs : List PV} {x s : List Nat} {vs : List Value}, gives1 H gs ps = some (qs, x, s) → (∀ i ∈ s, i ∈ seen) → ps.length = vs.length →
    (∀ (i : Nat) p v, ps[i]? = some p → vs[i]? = some v → Rep w (Xof H R) R p v) →
    (∀ q ∈ qs, ∀ us, q ≠ .tuple us) ∧ ∃ ks, ListR w (Zof H R seen) qs vs ks ∧ KsOf R x ks ∧ ∀ i ∈ x, ∃ sz rows, hget H i = some (.arr sz rows)
  | [], gs, qs, x, s, vs, h, _, hl, _ => by
    have : vs = [] := by simpa using hl.symm
    subst this
    have h : (some ([], [], []) : Option (List PV × List Nat × List Nat)) = some (qs, x, s) := by
      cases gs <;> simpa [gives1] using h
    cases h
    exact ⟨fun q hq => (by cases hq), [], .nil, .nil, fun i hi => (by cases hi)⟩
  | p :: ps, gs, qs, x, s, [], _, _, hl, _ => by simp at hl
  | p :: ps, gs, qs, x, s, v :: vs, h, hs, hl, hv => by
    have go : ∀ (g : Option Nat) (gs' : List Nat) (a : PV) (x1 s1 : List Nat) (b : List PV) (y t : List Nat), give1 g H p = some (a, x1, s1) → gives1 H gs' ps = some (b, y, t) → qs = a :: b → x = x1 ++ y → s = s1 ++ t →
        (∀ q ∈ qs, ∀ us, q ≠ .tuple us) ∧ ∃ ks, ListR w (Zof H R seen) qs (v :: vs) ks ∧ KsOf R x ks ∧ ∀ i ∈ x, ∃ sz rows, hget H i = some (.arr sz rows) := by
      rintro g gs' a x1 s1 b y t h1 h2 rfl rfl rfl
      obtain ⟨n1, k1, c1, c2, c3⟩ := give1_rep hH h1 (fun i hi => hs i (List.mem_append_left _ hi)) (hv 0 p v rfl rfl)
      obtain ⟨n2, k2, d1, d2, d3⟩ := gives1_rep hH h2 (fun i hi => hs i (List.mem_append_right _ hi)) (by simpa using hl) (fun i p' v' h3 h4 => hv (i + 1) p' v' (by simpa using h3) (by simpa using h4))
      refine ⟨fun q hq => ?_, k1 ++ k2, .cons _ _ _ _ _ _ c1 d1, c2.append d2, fun i hi => ?_⟩
      · cases hq with
        | head => exact n1
        | tail _ hq => exact n2 q hq
      · rcases List.mem_append.1 hi with hi | hi
        · exact c3 i hi
        · exact d3 i hi
    cases gs with
    | nil =>
      simp only [gives1] at h
      split at h <;> first | (cases h; done) | skip
      rename_i h1
      split at h <;> cases h
      rename_i h2
      exact go none [] _ _ _ _ _ _ h1 h2 rfl rfl rfl
    | cons z zs =>
      simp only [gives1] at h
      split at h <;> first | (cases h; done) | skip
      rename_i h1
      split at h <;> cases h
      rename_i h2
      exact go (some z) zs _ _ _ _ _ _ h1 h2 rfl rfl rfl

end

end Go.Ev

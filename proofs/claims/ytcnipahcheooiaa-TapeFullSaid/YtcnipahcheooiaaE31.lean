/-
  An operation depends on its operands and on the blocks that it looks at or sets, on nothing else. (It builds behind E23, ahead of E24.)
-/
import Derived.Test.YtcnipahcheooiaaE23
namespace Go.Ev
open Go
set_option linter.unusedSectionVars false
set_option linter.unusedSimpArgs false
set_option linter.unusedVariables false
variable [Frame]

/-- Two heaps with the same blocks of these numbers. -/
def Same (H H' : Heap) (ids : List Nat) : Prop := ∀ i ∈ ids, hget H' i = hget H i

theorem Same.sub {H H' : Heap} {a b : List Nat} (h : Same H H' a) (hs : ∀ i ∈ b, i ∈ a) : Same H H' b := fun i hi => h i (hs i hi)
theorem Same.left {H H' : Heap} {a b : List Nat} (h : Same H H' (a ++ b)) : Same H H' a := h.sub fun _ => List.mem_append_left _
theorem Same.right {H H' : Heap} {a b : List Nat} (h : Same H H' (a ++ b)) : Same H H' b := h.sub fun _ => List.mem_append_right _

section
variable {H H' : Heap}

theorem clo1_local {p q : PV} {ids : List Nat} (h : clo1 H p = some (q, ids)) (hs : Same H H' ids) : clo1 H' p = some (q, ids) := by
  cases p with
  | own id off len cl =>
    simp only [clo1] at h ⊢
    have key : ∀ b, hget H id = some b → ids = [id] → hget H' id = some b := fun b hb hi => by rw [hs id (by rw [hi]; exact .head _)]; exact hb
    split at h <;> first | (cases h; done) | skip
    · rename_i z rows hg
      split at h <;> cases h
      rename_i hb
      rw [key _ hg rfl]
      simp [hb]
    · rename_i z rows hg
      split at h <;> cases h
      rename_i hb
      rw [key _ hg rfl]
      simp [hb]
  | _ => exact h

theorem cloL_local : ∀ {ps qs : List PV} {ids : List Nat}, cloL H ps = some (qs, ids) → Same H H' ids → cloL H' ps = some (qs, ids)
  | [], qs, ids, h, _ => h
  | p :: ps, qs, ids, h, hs => by
    simp only [cloL] at h ⊢
    split at h <;> first | (cases h; done) | skip
    rename_i a x h1
    split at h <;> cases h
    rename_i b y h2
    rw [clo1_local h1 hs.left, cloL_local h2 hs.right]

theorem cloP_local {p q : PV} {ids : List Nat} (h : cloP H p = some (q, ids)) (hs : Same H H' ids) : cloP H' p = some (q, ids) := by
  cases p with
  | ptr id j =>
    simp only [cloP] at h ⊢
    split at h <;> first | (cases h; done) | skip
    rename_i cells hg
    split at h <;> first | (cases h; done) | skip
    rename_i cs x h1
    split at h <;> cases h
    rename_i hb
    have hi : hget H' id = some (.box cells) := by rw [hs id (.head _)]; exact hg
    rw [hi]
    simp only
    rw [cloL_local h1 (hs.sub fun i hi => .tail _ hi)]
    simp [hb]
  | _ => simp only [cloP] at h ⊢; exact clo1_local h hs

theorem cloPs_local : ∀ {ps qs : List PV} {ids : List Nat}, cloPs H ps = some (qs, ids) → Same H H' ids → cloPs H' ps = some (qs, ids)
  | [], qs, ids, h, _ => h
  | p :: ps, qs, ids, h, hs => by
    simp only [cloPs] at h ⊢
    split at h <;> first | (cases h; done) | skip
    rename_i a x h1
    split at h <;> cases h
    rename_i b y h2
    rw [cloP_local h1 hs.left, cloPs_local h2 hs.right]

theorem map_some {α β : Type} {o : Option α} {f : α → β} {y : β} (h : o.map f = some y) : ∃ x, o = some x ∧ f x = y := by
  cases o with
  | none => cases h
  | some x => cases h; exact ⟨x, rfl, rfl⟩

theorem clo2_local {p q : PV} {ids : List Nat} (h : clo2 H p = some (q, ids)) (hs : Same H H' ids) : clo2 H' p = some (q, ids) := by
  cases p with
  | agg cs =>
    simp only [clo2] at h ⊢
    obtain ⟨⟨a, x⟩, h1, h2⟩ := map_some h
    cases h2
    rw [cloL_local h1 hs]; rfl
  | func f cs =>
    simp only [clo2] at h ⊢
    obtain ⟨⟨a, x⟩, h1, h2⟩ := map_some h
    cases h2
    rw [cloPs_local h1 hs]; rfl
  | iface t v =>
    cases v with
    | agg cs =>
      simp only [clo2] at h ⊢
      obtain ⟨⟨a, x⟩, h1, h2⟩ := map_some h
      cases h2
      rw [cloL_local h1 hs]; rfl
    | _ =>
      simp only [clo2] at h ⊢
      obtain ⟨⟨a, x⟩, h1, h2⟩ := map_some h
      cases h2
      rw [clo1_local h1 hs]; rfl
  | _ => simp only [clo2] at h ⊢; exact cloP_local h hs

theorem clo2s_local : ∀ {ps qs : List PV} {ids : List Nat}, clo2s H ps = some (qs, ids) → Same H H' ids → clo2s H' ps = some (qs, ids)
  | [], qs, ids, h, _ => h
  | p :: ps, qs, ids, h, hs => by
    simp only [clo2s] at h ⊢
    split at h <;> first | (cases h; done) | skip
    rename_i a x h1
    split at h <;> cases h
    rename_i b y h2
    rw [clo2_local h1 hs.left, clo2s_local h2 hs.right]

theorem clo_local {p q : PV} {ids : List Nat} (h : clo H p = some (q, ids)) (hs : Same H H' ids) : clo H' p = some (q, ids) := by
  cases p with
  | tuple vs =>
    simp only [clo] at h ⊢
    obtain ⟨⟨a, x⟩, h1, h2⟩ := map_some h
    cases h2
    rw [clo2s_local h1 hs]; rfl
  | _ => simp only [clo] at h ⊢; exact clo2_local h hs

theorem frees_local : ∀ {ids : List Nat} {u : List (Nat × Blk)}, frees H ids = some u → Same H H' ids → frees H' ids = some u
  | [], u, h, _ => h
  | i :: r, u, h, hs => by
    have hi := hs i (.head _)
    have hr := fun u h => frees_local (ids := r) (u := u) h (hs.sub fun j hj => .tail _ hj)
    simp only [frees] at h ⊢
    rw [hi]
    split at h <;> first | (cases h; done) | skip
    · rename_i sz rows u' h1 h2
      cases h
      rw [h1, hr _ h2]
    · rename_i sz rows u' h1 h2
      cases h
      rw [h1, hr _ h2]

theorem hasAll_local : ∀ {ids : List Nat}, hasAll H ids = true → Same H H' ids → hasAll H' ids = true
  | [], _, _ => rfl
  | i :: r, h, hs => by
    have hi := hs i (.head _)
    have hr := fun h => hasAll_local (ids := r) h (hs.sub fun j hj => .tail _ hj)
    simp only [hasAll] at h ⊢
    rw [hi]
    split at h <;> first | (cases h; done) | skip
    exact hr h

theorem mov1_local {esz : Nat} {p q : PV} {ids : List Nat} (h : mov1 H esz p = some (q, ids)) (hs : Same H H' ids) : mov1 H' esz p = some (q, ids) := by
  cases p with
  | own id off len cl =>
    simp only [mov1] at h ⊢
    split at h <;> first | (cases h; done) | skip
    rename_i sz rows hg
    split at h <;> cases h
    rename_i hb
    rw [hs id (.head _), hg]
    simp [hb]
  | _ => exact h

theorem rowOf_local {p : PV} {cs : List PV} {ids : List Nat} (h : rowOf H p = some (cs, ids)) (hs : Same H H' ids) : rowOf H' p = some (cs, ids) := by
  unfold rowOf at h ⊢
  split at h <;> first | (cases h; done) | skip
  exact cloL_local h hs

theorem rowsOf_local {esz : Nat} : ∀ {ps : List PV} {rows : List (List PV)} {ids : List Nat}, rowsOf H esz ps = some (rows, ids) → Same H H' ids → rowsOf H' esz ps = some (rows, ids)
  | [], _, _, h, _ => h
  | p :: ps, rows, ids, h, hs => by
    simp only [rowsOf] at h ⊢
    split at h <;> first | (cases h; done) | skip
    rename_i a x h1
    split at h <;> cases h
    rename_i b y hb h2
    rw [rowOf_local h1 hs.left]
    simp only
    rw [rowsOf_local h2 hs.right, hb]

theorem rowsIn_local {esz : Nat} {p : PV} {rows : List (List PV)} {ids : List Nat} (h : rowsIn H esz p = some (rows, ids)) (hs : Same H H' ids) : rowsIn H' esz p = some (rows, ids) := by
  cases p with
  | own id off len cl =>
    simp only [rowsIn] at h ⊢
    split at h <;> first | (cases h; done) | skip
    · rename_i sz rs hg
      split at h <;> cases h
      rename_i h1 h2
      rw [hs id (.head _), hg]
      simp [h1, h2]
    · rename_i sz rs hg
      split at h <;> cases h
      rename_i h1 h2
      rw [hs id (.head _), hg]
      simp [h1, h2]
  | _ => exact h

theorem newIds_local : ∀ {l : List (Nat × Blk)} {seen : List Nat}, newIds H l seen = true → Same H H' (keys l) → newIds H' l seen = true
  | [], _, h, _ => h
  | (i, b) :: r, seen, h, hs => by
    have hi := hs i (.head _)
    simp only [newIds] at h ⊢
    rw [hi]
    split at h <;> first | (cases h; done) | skip
    split at h <;> first | (cases h; done) | skip
    exact newIds_local h (hs.sub fun j hj => .tail _ hj)

end

end Go.Ev

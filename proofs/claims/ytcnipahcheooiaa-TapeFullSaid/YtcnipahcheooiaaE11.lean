/-
  Values made plain, whole: structs, closures, interface values, several results.
-/
import Derived.Test.YtcnipahcheooiaaE10
namespace Go.Ev
open Go
set_option linter.unusedSectionVars false
set_option linter.unusedSimpArgs false
set_option linter.unusedVariables false
variable [Frame]

section
variable {w : World} {R : Refs} {H : Heap}

theorem cloL_rep (hH : HRel w R H) {X' : Nat → Prop} : ∀ {ps qs : List PV} {ids : List Nat}, cloL H ps = some (qs, ids) → Shown w R H X' ids →
    qs.length = ps.length ∧ ∀ (i : Nat) p q v, ps[i]? = some p → qs[i]? = some q → Rep w (Xof H R) R p v → Rep w X' noRefs q v
  | [], qs, ids, h, _ => by simp [cloL] at h; obtain ⟨rfl, rfl⟩ := h; exact ⟨rfl, fun i p q v hp => by simp at hp⟩
  | p :: ps, qs, ids, h, hS => by
    simp only [cloL] at h
    split at h <;> first | (cases h; done) | skip
    rename_i a x h1
    split at h <;> cases h
    rename_i b y h2
    obtain ⟨hl, ih⟩ := cloL_rep hH h2 (hS.mono fun i hi => List.mem_append_right _ hi)
    refine ⟨by simp [hl], fun i p' q' v hp hq hr => ?_⟩
    cases i with
    | zero => simp at hp hq; subst hp; subst hq; exact clo1_rep hH h1 (hS.mono fun i hi => List.mem_append_left _ hi) hr
    | succ i => simp at hp hq; exact ih i p' q' v hp hq hr

theorem cloP_rep (hH : HRel w R H) {X' : Nat → Prop} {p q : PV} {ids : List Nat} (hc : cloP H p = some (q, ids)) (hS : Shown w R H X' ids) {v : Value}
    (h : Rep w (Xof H R) R p v) : Rep w X' noRefs q v := by
  unfold cloP at hc
  split at hc
  · rename_i id j
    split at hc <;> first | (cases hc; done) | skip
    rename_i cells hg
    split at hc <;> first | (cases hc; done) | skip
    rename_i cs x h1
    split at hc <;> cases hc
    rename_i hb
    cases h with
    | ptr _ _ b k base _ h hbx hk =>
      obtain ⟨r, hr1, _, k', base', cur, et, h2, h3, h4, h5⟩ := hH.has id _ hg
      rw [h] at hr1; cases hr1
      rw [hk] at h2; cases h2
      obtain ⟨hl, hh⟩ := cloL_rep hH h1 (hS.mono fun i hi => List.mem_cons_of_mem _ hi)
      have hcell : ∀ (i : Nat) q, cs[i]? = some q → ∃ v, cur[base + i]? = some v ∧ v.oneCell' = true ∧ Rep w X' noRefs q v := by
        intro i q hq
        have hi : i < cells.length := by rw [← hl]; exact (List.getElem?_eq_some_iff.1 hq).1
        obtain ⟨v, a1, a2, a3⟩ := h5 i cells[i] (by simp)
        exact ⟨v, a1, a2, hh i cells[i] q v (by simp) hq a3⟩
      refine .rptr _ k (base + j) _ (fun i => cur.getD (base + (j + i)) undef) (hS.off id (.head _) b k base h hk) ((Array.getElem?_eq_some_iff.1 h3).1) (fun i q hq => ?_) (fun i q hq => ?_)
      · obtain ⟨v, a1, a2, a3⟩ := hcell (j + i) q (by simpa using hq)
        have e : cur.getD (base + (j + i)) undef = v := by simp [Array.getD_eq_getD_getElem?, a1]
        rw [e]
        exact ⟨by simp [cellAt, h3, Nat.add_assoc, a1], a2⟩
      · obtain ⟨v, a1, a2, a3⟩ := hcell (j + i) q (by simpa using hq)
        have e : cur.getD (base + (j + i)) undef = v := by simp [Array.getD_eq_getD_getElem?, a1]
        rw [e]; exact a3
  · exact clo1_rep hH hc hS h

theorem cloPs_rep (hH : HRel w R H) {X' : Nat → Prop} : ∀ {ps qs : List PV} {ids : List Nat}, cloPs H ps = some (qs, ids) → Shown w R H X' ids →
    qs.length = ps.length ∧ ∀ (i : Nat) p q v, ps[i]? = some p → qs[i]? = some q → Rep w (Xof H R) R p v → Rep w X' noRefs q v
  | [], qs, ids, h, _ => by simp [cloPs] at h; obtain ⟨rfl, rfl⟩ := h; exact ⟨rfl, fun i p q v hp => by simp at hp⟩
  | p :: ps, qs, ids, h, hS => by
    simp only [cloPs] at h
    split at h <;> first | (cases h; done) | skip
    rename_i a x h1
    split at h <;> cases h
    rename_i b y h2
    obtain ⟨hl, ih⟩ := cloPs_rep hH h2 (hS.mono fun i hi => List.mem_append_right _ hi)
    refine ⟨by simp [hl], fun i p' q' v hp hq hr => ?_⟩
    cases i with
    | zero => simp at hp hq; subst hp; subst hq; exact cloP_rep hH h1 (hS.mono fun i hi => List.mem_append_left _ hi) hr
    | succ i => simp at hp hq; exact ih i p' q' v hp hq hr

theorem agg_rep (hH : HRel w R H) {X' : Nat → Prop} {cs qs : List PV} {ids : List Nat} (hc : cloL H cs = some (qs, ids)) (hS : Shown w R H X' ids) {v : Value}
    (h : Rep w (Xof H R) R (.agg cs) v) : Rep w X' noRefs (.agg qs) v := by
  cases h with
  | agg _ _ arr hl h1 hh =>
    obtain ⟨hl2, h2⟩ := cloL_rep hH hc hS
    refine .agg _ qs arr (by omega) h1 fun i q v hq hv => ?_
    have hi : i < cs.length := by rw [← hl2]; exact (List.getElem?_eq_some_iff.1 hq).1
    exact h2 i cs[i] q v (by simp) hq (hh i _ v (by simp) hv)

theorem clo2_rep (hH : HRel w R H) {X' : Nat → Prop} {p q : PV} {ids : List Nat} (hc : clo2 H p = some (q, ids)) (hS : Shown w R H X' ids) {v : Value}
    (h : Rep w (Xof H R) R p v) : Rep w X' noRefs q v := by
  unfold clo2 at hc
  split at hc
  · cases hl : cloL H ‹_› with
    | none => rw [hl] at hc; cases hc
    | some z => obtain ⟨qs, x⟩ := z; rw [hl] at hc; cases hc; exact agg_rep hH hl hS h
  · rename_i f cs
    cases hl : cloPs H cs with
    | none => rw [hl] at hc; cases hc
    | some z =>
      obtain ⟨qs, x⟩ := z; rw [hl] at hc; cases hc
      cases h with
      | func _ _ _ arr hl1 h1 hh =>
        obtain ⟨hl2, h2⟩ := cloPs_rep hH hl hS
        refine .func _ f qs arr (by omega) h1 fun i q v hq hv => ?_
        have hi : i < cs.length := by rw [← hl2]; exact (List.getElem?_eq_some_iff.1 hq).1
        exact h2 i cs[i] q v (by simp) hq (hh i _ v (by simp) hv)
  · rename_i t cs
    cases hl : cloL H cs with
    | none => rw [hl] at hc; cases hc
    | some z =>
      obtain ⟨qs, x⟩ := z; rw [hl] at hc; cases hc
      cases h with
      | iface _ _ _ u h => exact .iface _ t _ _ (agg_rep hH hl hS h)
  · rename_i t p' _
    cases hl : clo1 H p' with
    | none => rw [hl] at hc; cases hc
    | some z =>
      obtain ⟨q', x⟩ := z; rw [hl] at hc; cases hc
      cases h with
      | iface _ _ _ u h => exact .iface _ t _ _ (clo1_rep hH hl hS h)
  · exact cloP_rep hH hc hS h

theorem clo2s_rep (hH : HRel w R H) {X' : Nat → Prop} : ∀ {ps qs : List PV} {ids : List Nat}, clo2s H ps = some (qs, ids) → Shown w R H X' ids →
    qs.length = ps.length ∧ ∀ (i : Nat) p q v, ps[i]? = some p → qs[i]? = some q → Rep w (Xof H R) R p v → Rep w X' noRefs q v
  | [], qs, ids, h, _ => by simp [clo2s] at h; obtain ⟨rfl, rfl⟩ := h; exact ⟨rfl, fun i p q v hp => by simp at hp⟩
  | p :: ps, qs, ids, h, hS => by
    simp only [clo2s] at h
    split at h <;> first | (cases h; done) | skip
    rename_i a x h1
    split at h <;> cases h
    rename_i b y h2
    obtain ⟨hl, ih⟩ := clo2s_rep hH h2 (hS.mono fun i hi => List.mem_append_right _ hi)
    refine ⟨by simp [hl], fun i p' q' v hp hq hr => ?_⟩
    cases i with
    | zero => simp at hp hq; subst hp; subst hq; exact clo2_rep hH h1 (hS.mono fun i hi => List.mem_append_left _ hi) hr
    | succ i => simp at hp hq; exact ih i p' q' v hp hq hr

theorem clo_rep (hH : HRel w R H) {X' : Nat → Prop} {p q : PV} {ids : List Nat} (hc : clo H p = some (q, ids)) (hS : Shown w R H X' ids) {v : Value}
    (h : Rep w (Xof H R) R p v) : Rep w X' noRefs q v := by
  unfold clo at hc
  split at hc
  · rename_i vs
    cases hl : clo2s H vs with
    | none => rw [hl] at hc; cases hc
    | some z =>
      obtain ⟨qs, x⟩ := z; rw [hl] at hc; cases hc
      cases h with
      | tuple _ _ arr hl1 hh =>
        obtain ⟨hl2, h2⟩ := clo2s_rep hH hl hS
        refine .tuple _ qs arr (by omega) fun i q v hq hv => ?_
        have hi : i < vs.length := by rw [← hl2]; exact (List.getElem?_eq_some_iff.1 hq).1
        exact h2 i vs[i] q v (by simp) hq (hh i _ v (by simp) hv)
  · exact clo2_rep hH hc hS h

end

end Go.Ev

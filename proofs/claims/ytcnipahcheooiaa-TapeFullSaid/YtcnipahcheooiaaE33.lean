/-
  The same, for memory.
-/
import Derived.Test.YtcnipahcheooiaaE32
import Derived.Test.YtcnipahcheooiaaE19
namespace Go.Ev
open Go
set_option linter.unusedSectionVars false
set_option linter.unusedSimpArgs false
set_option linter.unusedVariables false
variable [Frame]

section
variable {cx : Cx} {env : Env} {H H' : Heap}

theorem movC_local {esz : Nat} {p q : PV} {x s : List Nat} (h : movC H esz p = some (q, x, s)) (hs : Same H H' (x ++ s)) : movC H' esz p = some (q, x, s) := by
  cases p with
  | nul => exact h
  | own id off len cl =>
    simp only [movC] at h ⊢
    split at h <;> cases h
    rename_i hm
    rw [mov1_local hm hs.left]
  | _ =>
    simp only [movC] at h ⊢
    split at h <;> cases h
    rename_i hm
    rw [clo1_local hm hs.right]

theorem movCs_local : ∀ {zs : List Nat} {ps qs : List PV} {x s : List Nat}, movCs H zs ps = some (qs, x, s) → Same H H' (x ++ s) → movCs H' zs ps = some (qs, x, s)
  | zs, [], qs, x, s, h, _ => by cases zs <;> exact h
  | [], p :: ps, qs, x, s, h, hs => by
    simp only [movCs] at h ⊢
    split at h <;> first | (cases h; done) | skip
    rename_i a x1 s1 h1
    split at h <;> cases h
    rename_i b y t h2
    rw [movC_local h1 (hs.sub fun i hi => by simp only [List.mem_append] at hi ⊢; rcases hi with h | h; exact .inl (.inl h); exact .inr (.inl h))]
    simp only
    rw [movCs_local h2 (hs.sub fun i hi => by simp only [List.mem_append] at hi ⊢; rcases hi with h | h; exact .inl (.inr h); exact .inr (.inr h))]
  | z :: zs, p :: ps, qs, x, s, h, hs => by
    simp only [movCs] at h ⊢
    split at h <;> first | (cases h; done) | skip
    rename_i a x1 s1 h1
    split at h <;> cases h
    rename_i b y t h2
    rw [movC_local h1 (hs.sub fun i hi => by simp only [List.mem_append] at hi ⊢; rcases hi with h | h; exact .inl (.inl h); exact .inr (.inl h))]
    simp only
    rw [movCs_local h2 (hs.sub fun i hi => by simp only [List.mem_append] at hi ⊢; rcases hi with h | h; exact .inl (.inr h); exact .inr (.inr h))]

theorem arg1_local {m : Mode} {p : PV} {A : Arg} (h : arg1 H m p = some A) (hs : Same H H' (A.gone ++ A.seen ++ A.lent)) : arg1 H' m p = some A := by
  cases m with
  | shut =>
    simp only [arg1] at h ⊢
    obtain ⟨⟨a, x⟩, h1, h2⟩ := map_some h
    subst h2
    rw [clo_local h1 (hs.sub fun i hi => by simp [hi])]; rfl
  | move esz =>
    simp only [arg1] at h ⊢
    obtain ⟨⟨a, x⟩, h1, h2⟩ := map_some h
    subst h2
    rw [mov1_local h1 (hs.sub fun i hi => by simp [hi])]; rfl
  | lend szs =>
    cases p with
    | ptr id j =>
      cases j with
      | succ j => cases h
      | zero =>
        simp only [arg1] at h ⊢
        split at h <;> first | (cases h; done) | skip
        rename_i cells hg
        obtain ⟨⟨a, x, s⟩, h1, h2⟩ := map_some h
        subst h2
        rw [hs id (by simp), hg]
        simp only
        rw [movCs_local h1 (hs.sub fun i hi => by simp only [List.mem_append] at hi ⊢; rcases hi with h | h; exact .inl (.inl h); exact .inl (.inr h))]; rfl
    | _ => cases h

theorem args1_local {ρ : Opd → PV} : ∀ {as : List (Mode × Opd)} {A : Args}, args1 H ρ as = some A → Same H H' (A.gone ++ A.seen ++ A.lent) → args1 H' ρ as = some A
  | [], A, h, _ => h
  | (m, x) :: as, A, h, hs => by
    simp only [args1] at h ⊢
    split at h <;> first | (cases h; done) | skip
    rename_i a ha
    split at h <;> cases h
    rename_i b hb
    rw [arg1_local ha (hs.sub fun i hi => by simp only [List.mem_append] at hi ⊢; rcases hi with (h | h) | h; exact .inl (.inl (.inl h)); exact .inl (.inr (.inl h)); exact .inr (.inl h))]
    simp only
    rw [args1_local hb (hs.sub fun i hi => by simp only [List.mem_append] at hi ⊢; rcases hi with (h | h) | h; exact .inl (.inl (.inr h)); exact .inl (.inr (.inr h)); exact .inr (.inr h))]

theorem keys_filter {l : List (Nat × Blk)} {f : Nat × Blk → Bool} {j : Nat} (h : j ∈ keys (l.filter f)) : j ∈ keys l := by
  obtain ⟨c, hc⟩ := keys_mem.1 h
  exact keys_mem.2 ⟨c, (List.mem_filter.1 hc).1⟩

theorem frz_local {seen : List Nat} {r : PV} {ios : List (List PV)} {fr : List (Nat × Blk)} (h : frz H seen r ios = some fr) (hs : Same H H' seen) : frz H' seen r ios = some fr := by
  unfold frz at h ⊢
  split at h
  · exact h
  · exact frees_local h hs

theorem back_local {A : Args} {hints : List (Nat × Nat)} {base : Nat} {r : PV} {ios : List (List PV)} {e : Eff} (h : back H A hints base r ios = some e) (hs : Same H H' (e.rd ++ keys e.upd)) :
    back H' A hints base r ios = some e ∧ e.rd = A.gone ++ A.seen ++ A.lent := by
  unfold back at h ⊢
  split at h <;> first | (cases h; done) | skip
  rename_i c1 c2 c3 c4 c5
  split at h <;> first | (cases h; done) | skip
  rename_i fr hfr
  simp only at h
  split at h <;> first | (cases h; done) | skip
  rename_i hnew
  cases h
  simp only at hs ⊢
  have h5 : hasAll H' (A.gone ++ A.lent ++ A.seen) = true := hasAll_local c5 (hs.sub fun i hi => by simp only [List.mem_append] at hi ⊢; rcases hi with (h | h) | h; exact .inl (.inl (.inl h)); exact .inl (.inr h); exact .inl (.inl (.inr h)))
  have h6 := frz_local hfr (hs.sub fun i hi => by simp only [List.mem_append]; exact .inl (.inl (.inr hi)))
  have h7 := newIds_local hnew (hs.sub fun i hi => by
    rw [keys_append] at hi
    simp only [keys_append, List.mem_append] at hi ⊢
    rcases hi with h | h
    · exact .inr (.inl (.inr h))
    · exact .inr (.inr (keys_filter h)))
  rw [c1, c2, c3, c4, h5]
  simp only
  rw [h6]
  simp only
  rw [h7]
  exact ⟨rfl, trivial⟩

end

end Go.Ev

/-
  An operation depends on the blocks that it looks at or sets.
-/
import Derived.Test.YtcnipahcheooiaaE33
namespace Go.Ev
open Go
set_option linter.unusedSectionVars false
set_option linter.unusedSimpArgs false
set_option linter.unusedVariables false
variable [Frame]

section
variable {cx : Cx} {env : Env} {H H' : Heap}

theorem validO_local {id cl : Nat} (h : validO H id cl = true) (hs : hget H' id = hget H id) : validO H' id cl = true := by
  unfold validO at h ⊢
  rw [hs]; exact h

theorem evCall_local {f : FuncId} {A : Args} {pre post : List PV} {hints : List (Nat × Nat)} {base : Nat} {e : Eff} (h : evCall cx H f A pre post hints base = some e) (hs : Same H H' (e.rd ++ keys e.upd)) :
    evCall cx H' f A pre post hints base = some e ∧ e.rd = A.gone ++ A.seen ++ A.lent := by
  unfold evCall at h ⊢
  split at h <;> first | (cases h; done) | skip
  exact back_local h hs

theorem rowsOf_nil {esz : Nat} {ps : List PV} {x : List Nat} (h : rowsOf H esz ps = some ([], x)) : x = [] := by
  cases ps with
  | nil => simp only [rowsOf] at h; cases h; rfl
  | cons p ps =>
    simp only [rowsOf] at h
    split at h <;> first | (cases h; done) | skip
    split at h <;> cases h

theorem evOp_heap {op : IOp} {e : Eff} (h : evOp cx env H op = some e) (hs : Same H H' (e.rd ++ keys e.upd)) : evOp cx env H' op = some e := by
  have one : ∀ {id : Nat} {rd : List Nat} {u : List (Nat × Blk)}, Same H H' (rd ++ keys u) → (id ∈ rd ∨ id ∈ keys u) → hget H' id = hget H id := fun hs h => hs _ (List.mem_append.2 h)
  cases op with
  | call f as hints base =>
    simp only [evOp] at h ⊢
    split at h <;> first | (cases h; done) | skip
    rename_i A hA
    obtain ⟨h1, h2⟩ := evCall_local h hs
    rw [args1_local hA (hs.left.sub fun i hi => by rw [h2]; exact hi)]
    exact h1
  | alloc id z =>
    simp only [evOp] at h ⊢
    split at h <;> cases h
    rename_i hid
    rw [one hs (.inr (.head _)), hid]
  | box id x =>
    simp only [evOp] at h ⊢
    split at h <;> cases h
    rename_i hid hc
    rw [one hs (.inr (.head _)), hid, hc]
  | load sz agg a =>
    simp only [evOp] at h ⊢
    split at h <;> first | (cases h; done) | skip
    · split at h <;> first | (cases h; done) | skip
      rename_i hg
      split at h <;> cases h
      rename_i hr
      rw [one hs (.inl (.head _)), hg]
      simp only; rw [hr]
    · split at h <;> first | (cases h; done) | skip
      all_goals
        rename_i hg
        split at h <;> first | (cases h; done) | skip
        rename_i h1 h2
        split at h <;> cases h
        rename_i hr
        rw [one hs (.inl (.head _)), hg]
        simp only; rw [h1, h2]; simp only; rw [hr]
    · exact h
  | nilchk x =>
    simp only [evOp] at h ⊢
    split at h <;> first | (cases h; done) | skip
    · exact h
    · split at h <;> cases h
      rename_i hv
      rw [validO_local hv (one hs (.inl (.head _)))]
    · exact h
    · exact h
    · exact h
  | faddr off x =>
    simp only [evOp] at h ⊢
    split at h <;> first | (cases h; done) | skip
    · exact h
    · split at h <;> cases h
      rename_i hv
      rw [validO_local hv (one hs (.inl (.head _)))]
    · exact h
  | len x =>
    simp only [evOp] at h ⊢
    split at h <;> first | (cases h; done) | skip
    · exact h
    · split at h <;> cases h
      rename_i hv
      rw [validO_local hv (one hs (.inl (.head _)))]
    · exact h
  | callv x as hints base =>
    simp only [evOp] at h ⊢
    split at h <;> first | (cases h; done) | skip
    rename_i f cs y A hf hA
    obtain ⟨h1, h2⟩ := evCall_local h hs
    rw [clo2_local hf (hs.left.sub fun i hi => by rw [h2]; simp [hi]), args1_local hA (hs.left.sub fun i hi => by
      rw [h2]
      simp only [List.mem_append] at hi ⊢
      rcases hi with (h | h) | h
      · exact .inl (.inl h)
      · exact .inl (.inr (.inr h))
      · exact .inr h)]
    exact h1
  | inv x tab as hints base =>
    simp only [evOp] at h ⊢
    split at h <;> first | (cases h; done) | skip
    rename_i t v y A hf hA
    split at h <;> first | (cases h; done) | skip
    rename_i f hl
    obtain ⟨h1, h2⟩ := evCall_local h hs
    rw [clo2_local hf (hs.left.sub fun i hi => by rw [h2]; simp [hi]), args1_local hA (hs.left.sub fun i hi => by
      rw [h2]
      simp only [List.mem_append] at hi ⊢
      rcases hi with (h | h) | h
      · exact .inl (.inl h)
      · exact .inl (.inr (.inr h))
      · exact .inr h)]
    simp only
    rw [hl]
    exact h1
  | bslice id esz ps =>
    simp only [evOp] at h ⊢
    split at h <;> first | (cases h; done) | skip
    rename_i rows x hid hr
    split at h <;> first | (cases h; done) | skip
    rename_i fr hfr
    split at h
    · cases h
      have hx : x = [] := rowsOf_nil hr
      subst hx
      rw [one hs (.inl (.head _)), hid, rowsOf_local hr (fun i hi => by cases hi)]
      simp only
      rw [frees_local hfr (fun i hi => by cases hi)]
    · cases h
      rw [one hs (.inr (.head _)), hid, rowsOf_local hr hs.left]
      simp only
      rw [frees_local hfr hs.left]
  | store sz a x =>
    simp only [evOp] at h ⊢
    split at h <;> first | (cases h; done) | skip
    · split at h <;> first | (cases h; done) | skip
      rename_i hg
      split at h <;> first | (cases h; done) | skip
      rename_i hc
      split at h <;> cases h
      rename_i h1 h2
      rw [one hs (.inr (.head _)), hg]
      simp only
      rw [h1, h2]
    · split at h <;> first | (cases h; done) | skip
      rename_i hg
      split at h <;> first | (cases h; done) | skip
      rename_i h1 h2 h3
      split at h <;> cases h
      rename_i h4 h5 h6 h7
      rw [one hs (.inr (.head _)), hg]
      simp only
      rw [h1, h2, rowOf_local h3 hs.left]
      simp only
      rw [frees_local h4 hs.left, h5, h6, h7]
  | mksl id esb z l c =>
    simp only [evOp] at h ⊢
    split at h <;> first | (cases h; done) | skip
    rename_i hid
    split at h
    · split at h <;> first | (cases h; done) | skip
      split at h <;> cases h
      rw [one hs (.inr (.head _)), hid]
      simp_all
    · split at h <;> first | (cases h; done) | skip
      split at h <;> cases h
      rw [one hs (.inl (.head _)), hid]
      simp_all
  | rng id x =>
    simp only [evOp] at h ⊢
    split at h <;> cases h
    rename_i hx hid
    rw [one hs (.inr (.head _)), hid, hx]
  | toStr x =>
    simp only [evOp] at h ⊢
    split at h <;> first | (cases h; done) | skip
    rename_i rows ids hq hr
    split at h <;> cases h
    rename_i hb
    rw [rowsIn_local hr hs.left, hq]
    simp only; rw [hb]
  | mov x => exact h
  | pick c a b => exact h
  | build z ps => exact h
  | bin o x y => exact h
  | eq n a ks x y => exact h
  | eqn n x => exact h
  | un o x => exact h
  | toInt k x => exact h
  | same x => exact h
  | toBytes x => exact h
  | mkf f xs => exact h
  | mki t x => exact h
  | slcS x lo hi => exact h
  | field o z a x => exact h
  | idxA n z a x y => exact h
  | idxS x y => exact h
  | ext x i => exact h
  | lenS x => exact h
  | lenA n x => exact h
  | least xs => exact h
  | most xs => exact h
  | tas t c z x => exact h
  | stop => exact h
  | nxt x =>
    simp only [evOp] at h ⊢
    split at h <;> first | (cases h; done) | skip
    split at h <;> first | (cases h; done) | skip
    rename_i hg
    split at h <;> cases h
    · rename_i hlt
      rw [one hs (.inr (.head _)), hg]
      simp only; rw [if_pos hlt]
    · rename_i hlt
      rw [one hs (.inl (.head _)), hg]
      simp only; rw [if_neg hlt]
  | iaddrA n esz x ix =>
    simp only [evOp] at h ⊢
    split at h <;> first | (cases h; done) | skip
    · exact h
    · split at h <;> first | (cases h; done) | skip
      rename_i h1
      split at h <;> first | (cases h; done) | skip
      rename_i h2
      split at h <;> cases h
      rename_i hv
      rw [if_pos h1, if_pos h2, validO_local hv (one hs (.inl (.head _)))]
    · exact h
  | iaddr esz x ix =>
    simp only [evOp] at h ⊢
    split at h <;> first | (cases h; done) | skip
    · exact h
    · split at h <;> first | (cases h; done) | skip
      rename_i h1
      split at h <;> first | (cases h; done) | skip
      rename_i h2
      rw [if_pos h1, if_pos h2]
      split at h <;> first | (cases h; done) | skip
      all_goals
        rename_i hg
        split at h <;> cases h
        rename_i h3 h4
        rw [one hs (.inl (.head _)), hg]
        simp only; rw [h3, h4]
  | clear esz z x =>
    simp only [evOp] at h ⊢
    split at h <;> first | (cases h; done) | skip
    · exact h
    · split at h <;> first | (cases h; done) | skip
      rename_i hg
      split at h <;> cases h
      rename_i hb
      rw [one hs (.inr (.head _)), hg]
      simp only; rw [hb]
  | copy esz x y =>
    simp only [evOp] at h ⊢
    split at h <;> first | (cases h; done) | skip
    rename_i new ids hn
    split at h <;> first | (cases h; done) | skip
    · split at h <;> cases h
      rename_i hz
      rw [rowsIn_local hn hs.left]
      simp only; rw [hz]
    · split at h <;> first | (cases h; done) | skip
      rename_i hg
      split at h <;> cases h
      rename_i hb
      rw [rowsIn_local hn hs.left]
      simp only
      rw [one hs (.inr (.head _)), hg]
      simp only; rw [hb]
  | app id esz esb x y =>
    simp only [evOp] at h ⊢
    split at h <;> first | (cases h; done) | skip
    rename_i new ids hn
    split at h <;> first | (cases h; done) | skip
    · split at h
      · cases h
        rw [rowsIn_local hn hs.left]
      · split at h <;> first | (cases h; done) | skip
        rename_i h1
        split at h <;> cases h
        rename_i h2 h3
        rw [rowsIn_local hn hs.left]
        simp only
        rw [if_pos h1, one hs (.inr (.head _)), h2, h3]
    · split at h <;> cases h
      rw [rowsIn_local hn hs.left]
    · split at h <;> first | (cases h; done) | skip
      rename_i hg
      split at h <;> first | (cases h; done) | skip
      rename_i hb
      split at h
      · rename_i h1
        cases h
        rw [rowsIn_local hn hs.left]
        simp only
        rw [one hs (.inr (.head _)), hg]
        simp only; rw [hb]
        simp only; rw [if_pos h1]
      · rename_i h1
        split at h <;> first | (cases h; done) | skip
        rename_i h2 h3
        split at h <;> cases h
        rename_i h4
        rw [rowsIn_local hn hs.left]
        simp only
        rw [one hs (.inr (.head _)), hg]
        simp only; rw [hb]
        simp only; rw [if_neg h1, if_pos h4]
  | slc esz x lo hi mx =>
    simp only [evOp] at h ⊢
    split at h <;> first | (cases h; done) | skip
    · exact h
    · exact h
    · rename_i id off len cl hx
      have hid : id ∈ e.rd := by
        split at h <;> first | (cases h; done) | skip
        all_goals
          split at h <;> first | (cases h; done) | skip
          split at h <;> first | (cases h; done) | skip
          split at h <;> first | (cases h; done) | skip
          split at h
          · cases h; exact .head _
          · split at h <;> cases h <;> exact .head _
      rw [one hs (.inl hid)]
      exact h






end

end Go.Ev

/-
  Operations that are apart may change places.
-/
import Derived.Test.YtcnipahcheooiaaE34
namespace Go.Ev
open Go
set_option linter.unusedSectionVars false
set_option linter.unusedSimpArgs false
set_option linter.unusedVariables false
variable [Frame]

/-- What one operation does, or leaves undone. -/
def evE (cx : Cx) (o : Opn) (env : Env) (H : Heap) : Option Eff :=
  match wants env o.guard with
  | some true => evOp cx env H o.op
  | some false => some ⟨.undef, [], []⟩
  | none => none

def tmpsG (o : Opn) : List Nat := (match o.guard with | some (g, _) => [g] | none => []) ++ tmpsOp o.op

theorem getT_put {env : Env} {d : Option Nat} {v : PV} (t : Nat) : getT (put env d v) t = if d = some t then v else getT env t := by
  cases d with
  | none => simp [put]
  | some d =>
    simp only [put, getT]
    cases hb : Nat.beq d t with
    | true => have := nbeq_iff.1 hb; subst this; simp
    | false => have := nbeq_false hb; simp [this]

section
variable {cx : Cx} {env env' : Env} {H H' : Heap}

theorem wants_same {g : Option (Nat × Bool)} (h : SameT env env' (match g with | some (g, _) => [g] | none => [])) : wants env' g = wants env g := by
  cases g with
  | none => rfl
  | some p => obtain ⟨t, b⟩ := p; simp only [wants]; rw [h t (.head _)]

theorem evE_local {o : Opn} {e : Eff} (h : evE cx o env H = some e) (ht : SameT env env' (tmpsG o)) (hs : Same H H' (e.rd ++ keys e.upd)) : evE cx o env' H' = some e := by
  unfold evE at h ⊢
  rw [wants_same ht.left]
  split at h <;> first | (cases h; done) | skip
  · exact evOp_heap (by rw [evOp_env ht.right]; exact h) hs
  · exact h

theorem hget_out {u : List (Nat × Blk)} {i : Nat} (h : i ∉ keys u) : hget (hsets u H) i = hget H i := by
  rw [hget_last]
  cases hl : lastOf u i with
  | none => rfl
  | some c => exact absurd (keys_mem.2 ⟨c, lastOf_mem hl⟩) h

theorem hget_in {u : List (Nat × Blk)} {i : Nat} (h : i ∈ keys u) : hget (hsets u H) i = hget (hsets u H') i := by
  rw [hget_last, hget_last]
  cases hl : lastOf u i with
  | none => obtain ⟨c, hc⟩ := keys_mem.1 h; exact absurd rfl (lastOf_none hl _ hc)
  | some c => rfl

/-- Two operations, one behind the other, change places. -/
theorem evE_swap {o1 o2 : Opn} {e1 e2 : Eff} (h1 : evE cx o1 env H = some e1) (h2 : evE cx o2 (put env o1.dst e1.v) (hsets e1.upd H) = some e2)
    (t1 : ∀ t, o1.dst = some t → t ∉ tmpsG o2) (t2 : ∀ t, o2.dst = some t → t ∉ tmpsG o1) (td : ∀ t, o1.dst = some t → o2.dst ≠ some t)
    (a1 : ∀ i ∈ keys e1.upd, i ∉ e2.rd ∧ i ∉ keys e2.upd) (a2 : ∀ i ∈ keys e2.upd, i ∉ e1.rd) :
    evE cx o2 env H = some e2 ∧ evE cx o1 (put env o2.dst e2.v) (hsets e2.upd H) = some e1 ∧
      (∀ t, getT (put (put env o1.dst e1.v) o2.dst e2.v) t = getT (put (put env o2.dst e2.v) o1.dst e1.v) t) ∧ (∀ i, hget (hsets e2.upd (hsets e1.upd H)) i = hget (hsets e1.upd (hsets e2.upd H)) i) := by
  refine ⟨evE_local h2 (fun t ht => ?_) (fun i hi => ?_), evE_local h1 (fun t ht => ?_) (fun i hi => ?_), fun t => ?_, fun i => ?_⟩
  · rw [getT_put, if_neg (fun e => t1 t e ht)]
  · refine (hget_out fun h => ?_).symm
    rcases List.mem_append.1 hi with h' | h'
    · exact (a1 i h).1 h'
    · exact (a1 i h).2 h'
  · rw [getT_put, if_neg (fun e => t2 t e ht)]
  · refine hget_out fun h => ?_
    rcases List.mem_append.1 hi with h' | h'
    · exact a2 i h h'
    · exact (a1 i h').2 h
  · simp only [getT_put]
    by_cases h1 : o1.dst = some t
    · rw [if_neg (td t h1), if_pos h1, if_pos h1]
    · by_cases h2 : o2.dst = some t
      · rw [if_pos h2, if_neg h1, if_pos h2]
      · rw [if_neg h2, if_neg h1, if_neg h1, if_neg h2]
  · by_cases k1 : i ∈ keys e1.upd
    · rw [hget_out (a1 i k1).2]
      exact hget_in k1
    · rw [hget_out (u := e1.upd) k1]
      by_cases k2 : i ∈ keys e2.upd
      · exact hget_in k2
      · rw [hget_out k2, hget_out k2, hget_out k1]

end

end Go.Ev

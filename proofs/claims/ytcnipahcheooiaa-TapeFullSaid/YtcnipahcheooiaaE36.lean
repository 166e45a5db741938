/-
  Lists of operations, in whatever order.
-/
import Derived.Test.YtcnipahcheooiaaE35
namespace Go.Ev
open Go
set_option linter.unusedSectionVars false
set_option linter.unusedSimpArgs false
set_option linter.unusedVariables false
variable [Frame]

/-- Operations of these numbers, one behind the other, each with its effect. -/
inductive Runs (cx : Cx) (os : List Opn) (L : Nat → Eff) : List Nat → Env → Heap → Env → Heap → Prop
  | nil (env : Env) (H : Heap) : Runs cx os L [] env H env H
  | cons (i : Nat) (l : List Nat) (o : Opn) (env : Env) (H : Heap) (env' : Env) (H' : Heap) (ho : os[i]? = some o) (he : evE cx o env H = some (L i)) (hr : Runs cx os L l (put env o.dst (L i).v) (hsets (L i).upd H) env' H') :
      Runs cx os L (i :: l) env H env' H'

section
variable {cx : Cx} {os : List Opn} {L : Nat → Eff}

theorem Runs.congr : ∀ {l : List Nat} {env H env' H' env1 H1}, Runs cx os L l env H env' H' → (∀ t, getT env1 t = getT env t) → (∀ i, hget H1 i = hget H i) →
    ∃ env2 H2, Runs cx os L l env1 H1 env2 H2 ∧ (∀ t, getT env2 t = getT env' t) ∧ (∀ i, hget H2 i = hget H' i)
  | [], _, _, _, _, env1, H1, h, h1, h2 => by cases h; exact ⟨env1, H1, .nil _ _, h1, h2⟩
  | i :: l, env, H, env', H', env1, H1, h, h1, h2 => by
    cases h with
    | cons _ _ o _ _ _ _ ho he hr =>
      obtain ⟨env2, H2, r1, r2, r3⟩ := hr.congr (env1 := put env1 o.dst (L i).v) (H1 := hsets (L i).upd H1) (fun t => by rw [getT_put, getT_put, h1]) (hget_congr_hsets _ h2)
      exact ⟨env2, H2, .cons i l o _ _ _ _ ho (evE_local he (fun t _ => h1 t) (fun j _ => h2 j)) r1, r2, r3⟩

/-- These two may change places. -/
def Apart (os : List Opn) (L : Nat → Eff) (j i : Nat) : Prop :=
  ∀ o1 o2, os[j]? = some o1 → os[i]? = some o2 → (∀ t, o1.dst = some t → t ∉ tmpsG o2) ∧ (∀ t, o2.dst = some t → t ∉ tmpsG o1) ∧ (∀ t, o1.dst = some t → o2.dst ≠ some t) ∧
    (∀ k ∈ keys (L j).upd, k ∉ (L i).rd ∧ k ∉ keys (L i).upd) ∧ (∀ k ∈ keys (L i).upd, k ∉ (L j).rd)

/-- One that is apart from all ahead of it may come first. -/
theorem Runs.front : ∀ {p : List Nat} {i : Nat} {q : List Nat} {env H env' H'}, Runs cx os L (p ++ i :: q) env H env' H' → (∀ j ∈ p, Apart os L j i) →
    ∃ o env2 H2, os[i]? = some o ∧ evE cx o env H = some (L i) ∧ Runs cx os L (p ++ q) (put env o.dst (L i).v) (hsets (L i).upd H) env2 H2 ∧ (∀ t, getT env2 t = getT env' t) ∧ (∀ k, hget H2 k = hget H' k)
  | [], i, q, env, H, env', H', h, _ => by
    cases h with
    | cons _ _ o _ _ _ _ ho he hr => exact ⟨o, env', H', ho, he, hr, fun _ => rfl, fun _ => rfl⟩
  | j :: p, i, q, env, H, env', H', h, ha => by
    cases h with
    | cons _ _ o1 _ _ _ _ ho1 he1 hr =>
      obtain ⟨o2, env2, H2, ho2, he2, hr2, r1, r2⟩ := Runs.front hr fun k hk => ha k (.tail _ hk)
      obtain ⟨t1, t2, td, a1, a2⟩ := ha j (.head _) o1 o2 ho1 ho2
      obtain ⟨s1, s2, s3, s4⟩ := evE_swap he1 he2 t1 t2 td a1 a2
      obtain ⟨env3, H3, c1, c2, c3⟩ := hr2.congr (fun t => (s3 t).symm) (fun k => (s4 k).symm)
      exact ⟨o2, env3, H3, ho2, s1, .cons j _ o1 _ _ _ _ ho1 s2 c1, fun t => (c2 t).trans (r1 t), fun k => (c3 k).trans (r2 k)⟩

end

end Go.Ev

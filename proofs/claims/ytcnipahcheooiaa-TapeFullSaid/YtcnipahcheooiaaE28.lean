/-
  A function, whole: what the evaluator says of it holds of each call.
-/
import Derived.Test.YtcnipahcheooiaaE27
namespace Go.Ev
open Go
set_option linter.unusedSectionVars false
set_option linter.unusedSimpArgs false
set_option linter.unusedVariables false

def mRes (P : Program) : ResultVar → Res → Bool
  | .tmp t, .t i => Nat.beq t i
  | .cell a t, .m i sz agg => Nat.beq a i && decide (tySize P t = some sz) && decide (tyAgg P t = some agg)
  | _, _ => false
def mRess (P : Program) : List ResultVar → List Res → Bool
  | [], [] => true
  | r :: rs, q :: qs => mRes P r q && mRess P rs qs
  | _, _ => false
def mFn (P : Program) (gs : List Nat) (f : FuncId) (fn : IFn) : Bool :=
  match P.funcs[f]? with
  | some pf => match pf.body with
    | some c => mCode P gs pf.ntmps fn.body c && mRess P pf.results.toList fn.res && Nat.ble fn.np pf.ntmps && ownFn P f
    | none => false
  | none => false

section
variable [Frame]
variable {P : Program} {w : World} {R : Refs} {H : Heap} {env : Env} {tmps : Array Value}

def resultOf (tmps : Array Value) : ResultVar → Sem Value
  | .tmp t => pure (tmps.getD t undef)
  | .cell a t => do loadVar t (← asAddr (tmps.getD a undef))

theorem resultOf_ok (hH : HRel w R H) (hE : ERel w R H env tmps) {r : ResultVar} {q : Res} (hm : mRes P r q = true) (hq : getR env H q ≠ .io []) :
    ∃ v, (resultOf tmps r).run P w = .ok v w ∧ Rep w (Xof H R) R (getR env H q) v := by
  cases r with
  | tmp t => cases q with
    | t i =>
      have := nbeq_iff.1 hm
      subst this
      exact ⟨_, by simp [resultOf], hE t⟩
    | m => cases hm
  | cell a t => cases q with
    | t i => cases hm
    | m i sz agg =>
      simp only [mRes, Bool.and_eq_true, decide_eq_true_eq] at hm
      obtain ⟨⟨h1, h2⟩, h3⟩ := hm
      have := nbeq_iff.1 h1
      subst this
      simp only [getR] at hq ⊢
      have hr := hE a
      generalize hv : tmps.getD a undef = v at hr
      split at hq
      · rename_i id j hp
        rw [hp] at hr
        cases hr with
        | ptr _ _ b k base _ h hb hk =>
          split at hq
          · rename_i cells hg
            obtain ⟨r', q1, _, k', base', cs, et, q2, q3, q4, q5⟩ := hH.has id _ hg
            rw [h] at q1; cases q1
            rw [hk] at q2; cases q2
            split at hq
            · rename_i p hrd
              obtain ⟨u, u1, u2⟩ := load_from (P := P) (t := t) q3 q4 q5 hrd h2 h3
              refine ⟨u, ?_, u2⟩
              simp [resultOf, hv, asAddr, u1]
            · exact absurd rfl hq
          · exact absurd rfl hq
      · exact absurd rfl hq

theorem resultsL_ok (hH : HRel w R H) (hE : ERel w R H env tmps) : ∀ {rs : List ResultVar} {qs : List Res}, mRess P rs qs = true → (∀ q ∈ qs, getR env H q ≠ .io []) →
    ∃ vs : List Value, (rs.mapM (resultOf tmps)).run P w = .ok vs w ∧ (qs.map (getR env H)).length = vs.length ∧ ∀ (i : Nat) p v, (qs.map (getR env H))[i]? = some p → vs[i]? = some v → Rep w (Xof H R) R p v
  | [], [], _, _ => ⟨[], by simp, rfl, fun i p v h => by simp at h⟩
  | [], _ :: _, h, _ => by simp [mRess] at h
  | _ :: _, [], h, _ => by simp [mRess] at h
  | r :: rs, q :: qs, h, hq => by
    simp only [mRess, Bool.and_eq_true] at h
    obtain ⟨v, v1, v2⟩ := resultOf_ok hH hE h.1 (hq q (.head _))
    obtain ⟨vs, u1, u2, u3⟩ := resultsL_ok hH hE h.2 fun q' hq' => hq q' (.tail _ hq')
    refine ⟨v :: vs, by simp [List.mapM_cons, v1, u1], by simpa using u2, fun i p u hp hu => ?_⟩
    cases i with
    | zero => simp at hp hu; subst hp; subst hu; exact v2
    | succ i => simp at hp hu; exact u3 i p u (by simpa using hp) hu

theorem results_run {pf : Func} {vs : List Value} (h : (pf.results.toList.mapM (resultOf tmps)).run P w = .ok vs w) :
    (results pf tmps).run P w = .ok (match vs with | [v] => v | vs => .tuple vs.toArray) w := by
  have e : results pf tmps = (do let vs ← pf.results.mapM (resultOf tmps); pure (if h : vs.size = 1 then vs[0] else .tuple vs)) := by
    have e2 : ∀ f : ResultVar → Sem Value, (∀ r, f r = resultOf tmps r) → (do let vs ← pf.results.mapM f; pure (if h : vs.size = 1 then vs[0] else .tuple vs)) = (do let vs ← pf.results.mapM (resultOf tmps); pure (if h : vs.size = 1 then vs[0] else .tuple vs) : Sem Value) := by
      intro f hf
      have : f = resultOf tmps := funext hf
      rw [this]
    unfold results
    exact e2 _ fun r => by cases r <;> rfl
  rw [e, Array.mapM_eq_mapM_toList]
  simp only [Sem.run_bind]
  have h2 : (List.toArray <$> pf.results.toList.mapM (resultOf tmps)).run P w = .ok vs.toArray w := by
    simp [h]
  rw [h2]
  simp only [Result.andThen_ok]
  match vs with
  | [] => simp
  | [v] => simp
  | v :: u :: vs => simp

theorem gives1_noio {ps : List PV} : ∀ {gs : List Nat} {x : List PV × List Nat × List Nat}, gives1 H gs ps = some x → ∀ p ∈ ps, p ≠ .io [] := by
  have one : ∀ g, give1 g H (.io []) = none := by
    intro g
    cases g <;> rfl
  induction ps with
  | nil => intro gs x _ p hp; cases hp
  | cons q ps ih =>
    intro gs x h p hp
    have : ∃ g gs' y, give1 g H q ≠ none ∧ gives1 H gs' ps = some y := by
      cases gs with
      | nil =>
        simp only [gives1] at h
        split at h <;> first | (cases h; done) | skip
        rename_i h1
        split at h <;> first | (cases h; done) | skip
        rename_i h2
        exact ⟨none, [], _, by rw [h1]; simp, h2⟩
      | cons z zs =>
        simp only [gives1] at h
        split at h <;> first | (cases h; done) | skip
        rename_i h1
        split at h <;> first | (cases h; done) | skip
        rename_i h2
        exact ⟨some z, zs, _, by rw [h1]; simp, h2⟩
    obtain ⟨g, gs', y, h1, h2⟩ := this
    cases hp with
    | head => intro e; subst e; exact h1 (one g)
    | tail _ hp => exact ih h2 p hp

end

end Go.Ev

/-
  The whole table.
-/
import Derived.Test.YtcnipahcheooiaaE29
namespace Go.Ev
open Go
set_option linter.unusedSectionVars false
set_option linter.unusedSimpArgs false
set_option linter.unusedVariables false

/-- What a call comes to, so many calls and rounds deep at most. -/
def run (tab : FuncId → Option IFn) (prim : FuncId → List PV → Option (PV × List (List PV))) (glob : Nat → List PV) : Nat → FuncId → List PV → Option (PV × List (List PV))
  | 0, _, _ => none
  | n + 1, f, args => match tab f with
    | some fn => evFn ⟨run tab prim glob n, glob⟩ (iter n) fn args
    | none => prim f args

theorem run_ok {P : Program} {glob : Nat → List PV} {gs : List Nat} {tab : FuncId → Option IFn} {prim : FuncId → List PV → Option (PV × List (List PV))} (hP : P.follows .mixedOrders = true)
    (htab : ∀ f fn, tab f = some fn → mFn P gs f fn = true) (hprim : ∀ f args r, tab f = none → prim f args = some (r, []) → ownFn P f = true ∧ AnsOK P glob gs f args r) :
    ∀ n f args r, run tab prim glob n f args = some (r, []) → ownFn P f = true ∧ AnsOK P glob gs f args r
  | 0, f, args, r, h => by cases h
  | n + 1, f, args, r, h => by
    simp only [run] at h
    split at h
    · rename_i fn hf
      exact fn_ok hP (fun g args' r' h' => run_ok hP htab hprim n g args' r' h') n (htab f fn hf) h
    · rename_i hf
      exact hprim f args r hf h

def lookT : List (Nat × IFn) → Nat → Option IFn
  | [], _ => none
  | (k, c) :: r, f => match Nat.beq k f with | true => some c | false => lookT r f

theorem lookT_mem : ∀ {l : List (Nat × IFn)} {f : Nat} {c : IFn}, lookT l f = some c → (f, c) ∈ l
  | [], _, _, h => by cases h
  | (k, d) :: r, f, c, h => by
    simp only [lookT] at h
    cases hb : Nat.beq k f with
    | true => rw [hb] at h; cases h; have := Nat.eq_of_beq_eq_true hb; subst this; exact .head _
    | false => rw [hb] at h; exact .tail _ (lookT_mem h)

end Go.Ev

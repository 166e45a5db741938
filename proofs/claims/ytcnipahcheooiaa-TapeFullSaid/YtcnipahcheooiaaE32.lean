/-
  The same, for the operands.
-/
import Derived.Test.YtcnipahcheooiaaE31
namespace Go.Ev
open Go
set_option linter.unusedSectionVars false
set_option linter.unusedSimpArgs false
set_option linter.unusedVariables false
variable [Frame]

def tmpsO : Opd → List Nat
  | .t i => [i]
  | _ => []
def tmpsL : List Opd → List Nat
  | [] => []
  | x :: r => tmpsO x ++ tmpsL r
def tmpsM : Option Opd → List Nat
  | none => []
  | some x => tmpsO x
def tmpsP : List (Nat × Nat × Opd) → List Nat
  | [] => []
  | (_, _, x) :: r => tmpsO x ++ tmpsP r
def tmpsA : List (Mode × Opd) → List Nat
  | [] => []
  | (_, x) :: r => tmpsO x ++ tmpsA r

def tmpsOp : IOp → List Nat
  | .mov x | .box _ x | .nilchk x | .eqn _ x | .un _ x | .toInt _ x | .same x | .toBytes x | .toStr x | .mki _ x | .faddr _ x | .field _ _ _ x | .ext x _ | .len x | .lenS x | .lenA _ x | .clear _ _ x | .rng _ x | .nxt x | .tas _ _ _ x => tmpsO x
  | .load _ _ a => tmpsO a
  | .pick c a b => tmpsO c ++ (tmpsO a ++ tmpsO b)
  | .alloc _ _ | .stop => []
  | .build _ ps => tmpsP ps
  | .bslice _ _ ps => tmpsL ps
  | .store _ x y | .bin _ x y | .eq _ _ _ x y | .mksl _ _ _ x y | .iaddr _ x y | .iaddrA _ _ x y | .idxA _ _ _ x y | .idxS x y | .app _ _ _ x y | .copy _ x y => tmpsO x ++ tmpsO y
  | .mkf _ xs | .least xs | .most xs => tmpsL xs
  | .slcS x lo hi => tmpsO x ++ (tmpsM lo ++ tmpsM hi)
  | .slc _ x lo hi mx => tmpsO x ++ (tmpsM lo ++ (tmpsM hi ++ tmpsM mx))
  | .call _ as _ _ => tmpsA as
  | .callv x as _ _ | .inv x _ as _ _ => tmpsO x ++ tmpsA as

def SameT (env env' : Env) (ts : List Nat) : Prop := ∀ t ∈ ts, getT env' t = getT env t
theorem SameT.left {env env' : Env} {a b : List Nat} (h : SameT env env' (a ++ b)) : SameT env env' a := fun i hi => h i (List.mem_append_left _ hi)
theorem SameT.right {env env' : Env} {a b : List Nat} (h : SameT env env' (a ++ b)) : SameT env env' b := fun i hi => h i (List.mem_append_right _ hi)

section
variable {cx : Cx} {env env' : Env} {H : Heap}

theorem opd_same {x : Opd} (h : SameT env env' (tmpsO x)) : opd cx env' x = opd cx env x := by
  cases x with
  | t i => exact h i (.head _)
  | c v => rfl
  | g i => rfl
theorem opds_same : ∀ {xs : List Opd}, SameT env env' (tmpsL xs) → opds cx env' xs = opds cx env xs
  | [], _ => rfl
  | x :: xs, h => by simp only [opds]; rw [opd_same h.left, opds_same h.right]
theorem fillc_same : ∀ {ps : List (Nat × Nat × Opd)} {z : List PV}, SameT env env' (tmpsP ps) → fillc (opd cx env') ps z = fillc (opd cx env) ps z
  | [], _, _ => rfl
  | (o, n, x) :: ps, z, h => by
    simp only [fillc]
    rw [opd_same h.left]
    cases mcells (opd cx env x) with
    | none => rfl
    | some cs => simp only; rw [fillc_same h.right]
theorem bound_same {x : Option Opd} {l m d : Nat} (h : SameT env env' (tmpsM x)) : bound (opd cx env') x l m d = bound (opd cx env) x l m d := by
  cases x with
  | none => rfl
  | some x => simp only [bound]; rw [opd_same h]
theorem args1_same : ∀ {as : List (Mode × Opd)}, SameT env env' (tmpsA as) → args1 H (opd cx env') as = args1 H (opd cx env) as
  | [], _ => rfl
  | (m, x) :: as, h => by simp only [args1]; rw [opd_same h.left, args1_same h.right]

theorem evOp_env {op : IOp} (h : SameT env env' (tmpsOp op)) : evOp cx env' H op = evOp cx env H op := by
  cases op with
  | alloc => rfl
  | stop => rfl
  | build z ps => simp only [evOp]; rw [fillc_same h]
  | bslice id esz ps => simp only [evOp]; rw [opds_same h]
  | mkf f xs => simp only [evOp]; rw [opds_same h]
  | least xs => simp only [evOp]; rw [opds_same h]
  | most xs => simp only [evOp]; rw [opds_same h]
  | pick c a b => simp only [evOp]; rw [opd_same h.left, opd_same h.right.left, opd_same h.right.right]
  | slcS x lo hi =>
    have h1 : ∀ l m d, bound (opd cx env') lo l m d = bound (opd cx env) lo l m d := fun l m d => bound_same h.right.left
    have h2 : ∀ l m d, bound (opd cx env') hi l m d = bound (opd cx env) hi l m d := fun l m d => bound_same h.right.right
    simp only [evOp, opd_same h.left, h1, h2]
  | slc esz x lo hi mx =>
    have h1 : ∀ l m d, bound (opd cx env') lo l m d = bound (opd cx env) lo l m d := fun l m d => bound_same h.right.left
    have h2 : ∀ l m d, bound (opd cx env') hi l m d = bound (opd cx env) hi l m d := fun l m d => bound_same h.right.right.left
    have h3 : ∀ l m d, bound (opd cx env') mx l m d = bound (opd cx env) mx l m d := fun l m d => bound_same h.right.right.right
    simp only [evOp, opd_same h.left, h1, h2, h3]
  | call f as hints base => simp only [evOp]; rw [args1_same h]
  | callv x as hints base => simp only [evOp]; rw [opd_same h.left, args1_same h.right]
  | inv x tab as hints base => simp only [evOp]; rw [opd_same h.left, args1_same h.right]
  | store sz x y => simp only [evOp, opd_same h.left, opd_same h.right]
  | bin op x y => simp only [evOp, opd_same h.left, opd_same h.right]
  | eq n a ks x y => simp only [evOp, opd_same h.left, opd_same h.right]
  | mksl id e z x y => simp only [evOp, opd_same h.left, opd_same h.right]
  | iaddr e x y => simp only [evOp, opd_same h.left, opd_same h.right]
  | iaddrA n e x y => simp only [evOp, opd_same h.left, opd_same h.right]
  | idxA n e a x y => simp only [evOp, opd_same h.left, opd_same h.right]
  | idxS x y => simp only [evOp, opd_same h.left, opd_same h.right]
  | app id e b x y => simp only [evOp, opd_same h.left, opd_same h.right]
  | copy e x y => simp only [evOp, opd_same h.left, opd_same h.right]
  | lenA n x => rfl
  | _ => simp only [evOp, opd_same h]

end

end Go.Ev

/-
  Which operations may change places: what the checker asks, what it gives.
-/
import Derived.Test.YtcnipahcheooiaaE36
import Derived.Orders
namespace Go.Ev
open Go
set_option linter.unusedSectionVars false
set_option linter.unusedSimpArgs false
set_option linter.unusedVariables false
variable [Frame]

/-- Operations that look at no block and set none. -/
def pureOp : IOp → Bool
  | .mov _ | .pick _ _ _ | .build _ _ | .bin _ _ _ | .eq _ _ _ _ _ | .eqn _ _ | .un _ _ | .toInt _ _ | .same _ | .toBytes _ | .mkf _ _ | .mki _ _ | .slcS _ _ _ | .field _ _ _ _ | .idxA _ _ _ _ _ | .idxS _ _ | .ext _ _ | .lenS _ | .lenA _ _
  | .least _ | .most _ => true
  | _ => false

theorem pureOp_spec {cx : Cx} {env : Env} {H : Heap} {op : IOp} {e : Eff} (h : pureOp op = true) (he : evOp cx env H op = some e) : e.rd = [] ∧ e.upd = [] := by
  cases op <;> first | (cases h; done) | skip
  all_goals simp only [evOp] at he
  all_goals first
    | (cases he; exact ⟨rfl, rfl⟩)
    | (split at he <;> first | (cases he; done) | (cases he; exact ⟨rfl, rfl⟩) | skip)
  all_goals first
    | (split at he <;> first | (cases he; done) | (cases he; exact ⟨rfl, rfl⟩) | skip)
  all_goals first
    | (split at he <;> first | (cases he; done) | (cases he; exact ⟨rfl, rfl⟩) | skip)
  all_goals first
    | (split at he <;> first | (cases he; done) | (cases he; exact ⟨rfl, rfl⟩) | skip)

/-- Operations that set no block. -/
def readOp (op : IOp) : Bool :=
  match op with
  | .load _ _ _ | .iaddr _ _ _ | .toStr _ | .len _ | .slc _ _ _ _ _ | .nilchk _ | .faddr _ _ | .iaddrA _ _ _ _ => true
  | op => pureOp op

theorem readOp_spec {cx : Cx} {env : Env} {H : Heap} {op : IOp} {e : Eff} (h : readOp op = true) (he : evOp cx env H op = some e) : e.upd = [] := by
  have hp : ∀ {op : IOp}, pureOp op = true → evOp cx env H op = some e → e.upd = [] := fun h he => (pureOp_spec h he).2
  unfold readOp at h
  split at h <;> first | exact hp h he | skip
  all_goals simp only [evOp] at he
  all_goals
    repeat' (split at he)
    all_goals first | (cases he; done) | (cases he; rfl)

theorem readE {cx : Cx} {env : Env} {H : Heap} {o : Opn} {e : Eff} (h : readOp o.op = true) (he : evE cx o env H = some e) : e.upd = [] := by
  unfold evE at he
  split at he <;> first | (cases he; done) | skip
  · exact readOp_spec h he
  · cases he; rfl

def preds (o : Oper) : List Nat := (o.after.toList.filter fun e => Region.binds .any e).map (·.on)

theorem pureE {cx : Cx} {env : Env} {H : Heap} {o : Opn} {e : Eff} (h : pureOp o.op = true) (he : evE cx o env H = some e) : e.rd = [] ∧ e.upd = [] := by
  unfold evE at he
  split at he <;> first | (cases he; done) | skip
  · exact pureOp_spec h he
  · cases he; exact ⟨rfl, rfl⟩

def addN (l : List Nat) (x : Nat) : List Nat := match memN x l with | true => l | false => x :: l
def addAll (l : List Nat) : List Nat → List Nat
  | [] => l
  | x :: r => addAll (addN l x) r
def addPreds (acc : List (List Nat)) (l : List Nat) : List Nat → List Nat
  | [] => l
  | d :: r => addPreds acc (addAll (addN l d) (acc.getD d [])) r
/-- All that come before each operation, by a chain of edges. -/
def befs : List Oper → List (List Nat) → List (List Nat)
  | [], acc => acc
  | o :: r, acc => befs r (acc ++ [addPreds acc [] (preds o)])

def inPreds (B : List (List Nat)) (x : Nat) : List Nat → Bool
  | [] => false
  | d :: r => match Nat.beq d x with
    | true => true
    | false => match memN x (B.getD d []) with | true => true | false => inPreds B x r
def allPreds (B : List (List Nat)) (ds : List Nat) : List Nat → Bool
  | [] => true
  | x :: r => match inPreds B x ds with | true => allPreds B ds r | false => false
def mBef (B : List (List Nat)) : List Oper → List (List Nat) → Bool
  | [], [] => true
  | o :: r, b :: s => match allPreds B (preds o) b with | true => mBef B r s | false => false
  | _, _ => false

def offT (d : Option Nat) (ts : List Nat) : Bool :=
  match d with
  | none => true
  | some t => match memN t ts with | true => false | false => true
def offD (d d' : Option Nat) : Bool :=
  match d, d' with
  | some t, some t' => match Nat.beq t t' with | true => false | false => true
  | _, _ => true
def inChk (j i : Nat) : List (Nat × Nat) → Bool
  | [] => false
  | (a, b) :: r => match Nat.beq a j && Nat.beq b i with | true => true | false => inChk j i r
def pairOK (chk : List (Nat × Nat)) (j : Nat) (oj : Opn) (i : Nat) (oi : Opn) : Bool :=
  offT oj.dst (tmpsG oi) && offT oi.dst (tmpsG oj) && offD oj.dst oi.dst && (pureOp oj.op || pureOp oi.op || (readOp oj.op && readOp oi.op) || inChk j i chk)
def mPairs1 (chk : List (Nat × Nat)) (j : Nat) (oj : Opn) : Nat → List Opn → List (List Nat) → Bool
  | _, [], _ => true
  | i, oi :: r, b :: bs => (memN j b || pairOK chk j oj i oi) && mPairs1 chk j oj (i + 1) r bs
  | _, _ :: _, [] => false
def mPairs (chk : List (Nat × Nat)) : Nat → List Opn → List (List Nat) → Bool
  | _, [], _ => true
  | j, oj :: r, _ :: bs => mPairs1 chk j oj (j + 1) r bs && mPairs chk (j + 1) r bs
  | _, _ :: _, [] => false

def allBelow (n : Nat) : List Nat → Bool
  | [] => true
  | x :: r => match Nat.blt x n with | true => allBelow n r | false => false
def mBack : Nat → List Oper → Bool
  | _, [] => true
  | n, o :: r => match allBelow n (preds o) with | true => mBack (n + 1) r | false => false

/-- May the operations come in every order that the edges leave open? -/
def mDraw (ops : Array Oper) (os : List Opn) (chk : List (Nat × Nat)) : Bool :=
  mBack 0 ops.toList && (mBef (befs ops.toList []) ops.toList (befs ops.toList []) && mPairs chk 0 os (befs ops.toList []))

theorem allBelow_spec {n : Nat} : ∀ {l : List Nat}, allBelow n l = true → ∀ x ∈ l, x < n
  | [], _, x, hx => by cases hx
  | y :: r, h, x, hx => by
    simp only [allBelow] at h
    split at h <;> first | (cases h; done) | skip
    rename_i hp
    cases hx with
    | head => exact blt_iff.1 hp
    | tail _ hx => exact allBelow_spec h x hx
theorem mBack_spec : ∀ {l : List Oper} {n : Nat}, mBack n l = true → ∀ (i : Nat) o, l[i]? = some o → ∀ x ∈ preds o, x < n + i
  | [], _, _, i, o, h => by simp at h
  | o :: l, n, h, i, o', ho => by
    simp only [mBack] at h
    split at h <;> first | (cases h; done) | skip
    rename_i hb
    cases i with
    | zero => simp at ho; subst ho; simpa using allBelow_spec hb
    | succ i =>
      simp at ho
      intro x hx
      have := mBack_spec h i o' ho x hx
      omega

theorem inPreds_spec {B : List (List Nat)} {x : Nat} : ∀ {ds : List Nat}, inPreds B x ds = true → ∃ d ∈ ds, d = x ∨ x ∈ B.getD d []
  | [], h => by cases h
  | d :: r, h => by
    simp only [inPreds] at h
    split at h
    · rename_i hb; exact ⟨d, .head _, .inl (nbeq_iff.1 hb)⟩
    · split at h
      · rename_i hm; exact ⟨d, .head _, .inr (memN_iff.1 hm)⟩
      · obtain ⟨d', h1, h2⟩ := inPreds_spec h; exact ⟨d', .tail _ h1, h2⟩
theorem allPreds_spec {B : List (List Nat)} {ds : List Nat} : ∀ {b : List Nat}, allPreds B ds b = true → ∀ x ∈ b, ∃ d ∈ ds, d = x ∨ x ∈ B.getD d []
  | [], _, x, hx => by cases hx
  | y :: r, h, x, hx => by
    simp only [allPreds] at h
    split at h <;> first | (cases h; done) | skip
    rename_i hp
    cases hx with
    | head => exact inPreds_spec hp
    | tail _ hx => exact allPreds_spec h x hx
theorem mBef_spec {B : List (List Nat)} : ∀ {l : List Oper} {b : List (List Nat)}, mBef B l b = true → ∀ (i : Nat) o, l[i]? = some o → ∀ x ∈ b.getD i [], ∃ d ∈ preds o, d = x ∨ x ∈ B.getD d []
  | [], _, _, i, o, h => by simp at h
  | _ :: _, [], h, _, _, _ => by simp [mBef] at h
  | o :: l, b :: bs, h, i, o', ho => by
    simp only [mBef] at h
    split at h <;> first | (cases h; done) | skip
    rename_i hb
    cases i with
    | zero => simp at ho; subst ho; simpa using allPreds_spec hb
    | succ i => simp at ho; simpa using mBef_spec h i o' ho

theorem mPairs1_spec {chk : List (Nat × Nat)} {j : Nat} {oj : Opn} : ∀ {r : List Opn} {bs : List (List Nat)} {i : Nat}, mPairs1 chk j oj i r bs = true → ∀ (k : Nat) oi, r[k]? = some oi → j ∈ bs.getD k [] ∨ pairOK chk j oj (i + k) oi = true
  | [], _, _, _, k, oi, h => by simp at h
  | _ :: _, [], _, h, _, _, _ => by simp [mPairs1] at h
  | oi :: r, b :: bs, i, h, k, o, ho => by
    simp only [mPairs1, Bool.and_eq_true, Bool.or_eq_true] at h
    cases k with
    | zero =>
      simp at ho; subst ho
      rcases h.1 with h1 | h1
      · exact .inl (by simpa using memN_iff.1 h1)
      · exact .inr h1
    | succ k =>
      simp at ho
      rcases mPairs1_spec h.2 k o ho with h1 | h1
      · exact .inl (by simpa using h1)
      · exact .inr (by rw [show i + (k + 1) = i + 1 + k by omega]; exact h1)
theorem mPairs_spec {chk : List (Nat × Nat)} : ∀ {os : List Opn} {bs : List (List Nat)} {n : Nat}, mPairs chk n os bs = true → ∀ (j i : Nat) oj oi, j < i → os[j]? = some oj → os[i]? = some oi → n + j ∈ bs.getD i [] ∨ pairOK chk (n + j) oj (n + i) oi = true
  | [], _, _, _, j, i, oj, oi, _, h, _ => by simp at h
  | _ :: _, [], _, h, _, _, _, _, _, _, _ => by simp [mPairs] at h
  | o :: os, b :: bs, n, h, j, i, oj, oi, hlt, hj, hi => by
    simp only [mPairs, Bool.and_eq_true] at h
    cases i with
    | zero => omega
    | succ i =>
      simp at hi
      cases j with
      | zero =>
        simp at hj; subst hj
        rcases mPairs1_spec h.1 i oi hi with h1 | h1
        · exact .inl (by simpa using h1)
        · exact .inr (by rw [show n + (i + 1) = n + 1 + i by omega]; exact h1)
      | succ j =>
        simp at hj
        rcases mPairs_spec h.2 j i oj oi (by omega) hj hi with h1 | h1
        · exact .inl (by rw [show n + (j + 1) = n + 1 + j by omega]; simpa using h1)
        · exact .inr (by rw [show n + (j + 1) = n + 1 + j by omega, show n + (i + 1) = n + 1 + i by omega]; exact h1)

end Go.Ev

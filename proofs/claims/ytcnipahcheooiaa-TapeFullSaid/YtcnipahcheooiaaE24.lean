/-
  Regions: operations one after another, in whatever order they are listed.
-/
import Derived.Test.YtcnipahcheooiaaE35
import Derived.Orders
namespace Go.Ev
open Go
set_option linter.unusedSectionVars false
set_option linter.unusedSimpArgs false
set_option linter.unusedVariables false
variable [Frame]

/-- What is true at each place of a function's body. -/
structure Inv (cx : Cx) (gs : List Nat) (N : Nat) (w0 : World) (K : Nat → Prop) (w : World) (R : Refs) (H : Heap) (env : Env) (a : Act) : Prop where
  heap : HRel w R H
  env : ERel w R H env a.tmps
  glob : GlobOK cx gs w (Xof H R)
  size : N ≤ a.tmps.size
  calm : a.defers = []
  grow : Grow w0 K w
  own : ∀ k, k < w0.heap.size → Own H R k → K k

section
variable {P : Program} {cx : Cx} {gs : List Nat} {N : Nat} {w0 w : World} {K : Nat → Prop} {R : Refs} {H : Heap} {env : Env} {a : Act}

theorem Inv.step (hI : Inv cx gs N w0 K w R H env a) {e : Eff} {v : Value} {w' : World} {R' : Refs} (hp : Post w R H e v w' R') {d : Option Nat} (hd : ∀ t, d = some t → t < N) :
    Inv cx gs N w0 K w' R' (hsets e.upd H) (put env d e.v) (a.put d v) := by
  have hsz : (a.put d v).tmps.size = a.tmps.size := by cases d <;> simp [Act.put]
  refine ⟨hp.heap, fun t => ?_, fun g hg => (hI.glob g hg).mono hp.grow.weak hp.out (RExt.no _), by rw [hsz]; exact hI.size, ?_, ?_, ?_⟩
  · rw [getT_put]
    by_cases h : d = some t
    · subst h
      rw [if_pos rfl]
      have ht : t < a.tmps.size := Nat.lt_of_lt_of_le (hd t rfl) hI.size
      have : (a.put (some t) v).tmps.getD t undef = v := by simp [Act.put, Array.getD, ht]
      rw [this]; exact hp.val
    · rw [if_neg h]
      have : (a.put d v).tmps.getD t undef = a.tmps.getD t undef := by
        cases d with
        | none => rfl
        | some d =>
          have hne : d ≠ t := fun e => h (by rw [e])
          simp [Act.put, Array.getD_eq_getD_getElem?, Array.getElem?_setIfInBounds, hne]
      rw [this]
      exact (hI.env t).mono hp.grow.weak hp.out hp.ext
  · cases d <;> simp [Act.put, hI.calm]
  · exact hI.grow.trans hp.grow fun k hk hn ho => hn (hI.own k hk ho)
  · intro k hk ho
    have hlt : k < w.heap.size := Nat.lt_of_lt_of_le hk hI.grow.size
    rcases Classical.em (Xof H R k) with h | h
    · rcases h with h | h
      · obtain ⟨i, b, r, o, h1, h2, h3, h4⟩ := ho
        exact (hp.heap.off i b r k o h1 (live_dead h2) h3 h4 h).elim
      · exact hI.own k hk h
    · exact (hp.out k hlt h (.inr ho)).elim

theorem Inv.skip (hI : Inv cx gs N w0 K w R H env a) {d : Option Nat} (hd : ∀ t, d = some t → t < N) : Inv cx gs N w0 K w R H (put env d .undef) (a.put d undef) :=
  hI.step (e := ⟨.undef, [], []⟩) (Post.pure hI.heap (.undef _)) hd

theorem Inv.congr (hI : Inv cx gs N w0 K w R H env a) {H' : Heap} {env' : Env} (hH : ∀ i, hget H i = hget H' i) (he : ∀ t, getT env t = getT env' t) : Inv cx gs N w0 K w R H' env' a := by
  have hX := fun k => Xof_congr (R := R) hH k
  refine ⟨hI.heap.congr hH, fun t => ?_, fun g hg => ?_, hI.size, hI.calm, hI.grow, fun k hk ho => hI.own k hk ?_⟩
  · rw [← he t]
    exact (hI.env t).mono (Grow.refl w _) (fun k _ hn hx => hn ((hX k).2 hx)) (RExt.refl _)
  · exact (hI.glob g hg).mono (Grow.refl w _) (fun k _ hn hx => hn ((hX k).2 hx)) (RExt.refl _)
  · obtain ⟨i, b, r, o, h1, rest⟩ := ho
    exact ⟨i, b, r, o, by rw [hH]; exact h1, rest⟩

/-- The guards. -/
def mGuard (ops : Array Oper) (g : Option (Nat × Bool)) (g' : Option (Nat × Bool)) : Bool :=
  match g, g' with
  | none, none => true
  | some (j, b), some (t, b') => match (ops[j]?).bind (·.dst) with
    | some d => Nat.beq d t && (b == b')
    | none => false
  | _, _ => false
def mDst (N : Nat) (d d' : Option Nat) : Bool :=
  match d, d' with
  | none, none => true
  | some t, some t' => Nat.beq t t' && Nat.blt t N
  | _, _ => false
def mOne (P : Program) (gs : List Nat) (N : Nat) (ops : Array Oper) (o : Oper) (q : Opn) : Bool :=
  mGuard ops o.guard q.guard && mDst N o.dst q.dst && mOp P gs o q.op
def mAll (P : Program) (gs : List Nat) (N : Nat) (ops : Array Oper) : List Oper → List Opn → Bool
  | [], [] => true
  | o :: r, q :: s => mOne P gs N ops o q && mAll P gs N ops r s
  | _, _ => false

theorem mAll_get {ops : Array Oper} : ∀ {l : List Oper} {os : List Opn}, mAll P gs N ops l os = true → l.length = os.length ∧ ∀ (i : Nat) o q, l[i]? = some o → os[i]? = some q → mOne P gs N ops o q = true
  | [], [], _ => ⟨rfl, fun i o q h => by simp at h⟩
  | [], _ :: _, h => by simp [mAll] at h
  | _ :: _, [], h => by simp [mAll] at h
  | o :: l, q :: os, h => by
    simp only [mAll, Bool.and_eq_true] at h
    obtain ⟨h1, h2⟩ := mAll_get h.2
    refine ⟨by simp [h1], fun i o' q' ho hq => ?_⟩
    cases i with
    | zero => simp at ho hq; subst ho; subst hq; exact h.1
    | succ i => simp at ho hq; exact h2 i o' q' ho hq

/-- One operation, or none. -/
def evOne (cx : Cx) (o : Opn) (env : Env) (H : Heap) : Option (Env × Heap) :=
  match wants env o.guard with
  | some true => match evOp cx env H o.op with
    | some e => some (put env o.dst e.v, hsets e.upd H)
    | none => none
  | some false => some (put env o.dst .undef, H)
  | none => none

theorem wants_spec (hE : ERel w R H env a.tmps) {ops : Array Oper} {o : Oper} {g : Option (Nat × Bool)} {b : Bool} (hg : mGuard ops o.guard g = true) (hw : wants env g = some b) :
    Region.wanted o (yielded ops a.tmps) = b := by
  unfold mGuard at hg
  split at hg <;> first | (cases hg; done) | skip
  · rename_i h1
    simp only [wants] at hw
    cases hw
    simp [Region.wanted, h1]
  · rename_i j b0 t b' h1
    split at hg <;> first | (cases hg; done) | skip
    rename_i d hd
    simp only [Bool.and_eq_true, beq_iff_eq] at hg
    have hdt := nbeq_iff.1 hg.1
    have hbb := hg.2
    subst hdt; subst hbb
    have hr := hE d
    have hy : yielded ops a.tmps j = match a.tmps[d]? with | some (.bool b) => some b | _ => none := by
      unfold yielded
      rw [hd, Option.bind_some]
      cases a.tmps[d]? with
      | none => rfl
      | some v => cases v <;> rfl
    simp only [wants] at hw
    simp only [Region.wanted, h1, hy]
    split at hw <;> first | (cases hw; done) | skip
    · rename_i bb hbv
      rw [hbv] at hr
      generalize hu : a.tmps.getD d undef = u at hr
      cases hr
      have hget : a.tmps[d]? = some (.bool bb) := by
        rw [Array.getD_eq_getD_getElem?] at hu
        cases h : a.tmps[d]? with
        | none => rw [h] at hu; cases hu
        | some x => rw [h] at hu; simp at hu; rw [hu]
      rw [hget]
      cases b0 <;> cases bb <;> simp_all
    · rename_i hbv
      cases hw
      rw [hbv] at hr
      generalize hu : a.tmps.getD d undef = u at hr
      cases hr
      rw [Array.getD_eq_getD_getElem?] at hu
      cases h : a.tmps[d]? with
      | none => simp
      | some x =>
        rw [h] at hu
        simp at hu
        subst hu
        simp [undef]

theorem mDst_spec {d d' : Option Nat} (h : mDst N d d' = true) : d = d' ∧ ∀ t, d = some t → t < N := by
  unfold mDst at h
  split at h <;> first | (cases h; done) | skip
  · exact ⟨rfl, fun t h => by cases h⟩
  · simp only [Bool.and_eq_true] at h
    have := nbeq_iff.1 h.1
    subst this
    exact ⟨rfl, fun t h' => by cases h'; exact blt_iff.1 h.2⟩

theorem one_ok (hcall : ∀ f, FnOK P cx.glob gs cx.call f) {ops : Array Oper} {o : Oper} {q : Opn} {i : Nat} (ho : ops[i]? = some o) (hm : mOne P gs N ops o q = true)
    (hI : Inv cx gs N w0 K w R H env a) {env' : Env} {H' : Heap} (he : evOne cx q env H = some (env', H')) {next : Act → World → Prop} {Q : Exit → Act → World → Prop}
    (hn : ∀ a' w' R', Inv cx gs N w0 K w' R' H' env' a' → next a' w') : wpOp P ops Q i next a w := by
  simp only [mOne, Bool.and_eq_true] at hm
  obtain ⟨⟨m1, m2⟩, m3⟩ := hm
  obtain ⟨d1, d2⟩ := mDst_spec m2
  unfold evOne at he
  unfold wpOp
  rw [ho]
  simp only
  split at he <;> first | (cases he; done) | skip
  · rename_i hw
    rw [wants_spec hI.env m1 hw, if_pos rfl]
    split at he <;> cases he
    rename_i e hev
    refine .inl ?_
    unfold Oper.wp
    refine mOp_ok hI.heap hI.env hI.glob hcall m3 hev next Q fun v w' R' hp => hn _ w' R' ?_
    rw [← d1]
    exact hI.step hp d2
  · rename_i hw
    rw [wants_spec hI.env m1 hw]
    cases he
    simp only [Bool.false_eq_true, if_false]
    refine hn _ w R ?_
    rw [← d1]
    exact hI.skip d2

/-- In the order of the text. -/
theorem ops_ok (hcall : ∀ f, FnOK P cx.glob gs cx.call f) {ops : Array Oper} {Q : Exit → Act → World → Prop} : ∀ {os : List Opn} {l : List Oper} (n : Nat), (∀ (j : Nat) o, l[j]? = some o → ops[n + j]? = some o) → mAll P gs N ops l os = true →
    ∀ {w : World} {R : Refs} {H : Heap} {env : Env} {a : Act}, Inv cx gs N w0 K w R H env a → ∀ {env' : Env} {H' : Heap}, evOps cx os env H = some (env', H') →
    (∀ a' w' R', Inv cx gs N w0 K w' R' H' env' a' → Q .normal a' w') → wpOps P ops Q (List.range' n os.length) a w
  | [], l, n, _, _, w, R, H, env, a, hI, env', H', he, hQ => by
    simp only [evOps] at he
    cases he
    exact hQ a w R hI
  | q :: os, [], n, _, hm, _, _, _, _, _, _, _, _, _, _ => by simp [mAll] at hm
  | q :: os, o :: l, n, hl, hm, w, R, H, env, a, hI, env', H', he, hQ => by
    simp only [mAll, Bool.and_eq_true] at hm
    have hone : ∃ env1 H1, evOne cx q env H = some (env1, H1) ∧ evOps cx os env1 H1 = some (env', H') := by
      simp only [evOps] at he
      unfold evOne
      split at he <;> first | (cases he; done) | skip
      rename_i b hb
      split at he
      · rw [hb]
        split at he <;> first | (cases he; done) | skip
        rename_i e hev
        exact ⟨_, _, by simp [hev], he⟩
      · rw [hb]
        exact ⟨_, _, rfl, he⟩
    obtain ⟨env1, H1, h1, h2⟩ := hone
    rw [List.length_cons, List.range'_succ, wpOps_cons]
    refine one_ok hcall (hl 0 o rfl) hm.1 hI h1 fun a' w' R' hI' => ?_
    exact ops_ok hcall (n + 1) (fun j o' hj => by
      have := hl (j + 1) o' (by simpa using hj)
      rwa [show n + 1 + j = n + (j + 1) by omega]) hm.2 hI' h2 hQ

theorem region_ok (hcall : ∀ f, FnOK P cx.glob gs cx.call f) {ops : Array Oper} {id : Nat} {os : List Opn} (hm : mAll P gs N ops ops.toList os = true) (hI : Inv cx gs N w0 K w R H env a) {env' : Env} {H' : Heap}
    (he : evOps cx os env H = some (env', H')) {Q : Exit → Act → World → Prop} (hQ : ∀ a' w' R', Inv cx gs N w0 K w' R' H' env' a' → Q .normal a' w') : (Code.region id ops false).wp P Q a w := by
  refine wp_region ?_
  have := ops_ok hcall (Q := Q) 0 (fun j o hj => by simpa using hj) hm hI he hQ
  rw [← (mAll_get hm).1, Array.length_toList] at this
  rwa [List.range_eq_range']

end

end Go.Ev

/-
  Ghosts: what is forgotten, what gets a name; nothing happens in the program.
-/
import Derived.Test.YtcnipahcheooiaaE38
namespace Go.Ev
open Go
set_option linter.unusedSectionVars false
set_option linter.unusedSimpArgs false
set_option linter.unusedVariables false
variable [Frame]

section
variable {P : Program} {cx : Cx} {gs : List Nat} {N : Nat} {w0 w : World} {K : Nat → Prop} {R : Refs} {H : Heap} {env : Env} {a : Act}

/-- Just some blocks. -/
def onlyR (ids : List Nat) (R : Refs) : Refs := fun i => if memN i ids = true then R i else none

theorem ment1_rep {ids : List Nat} {X X' : Nat → Prop} {p : PV} {v : Value} (h : Rep w X R p v) (hm : ment1 ids p = true) (hX : ∀ k, X' k → X k) : Rep w X' (onlyR ids R) p v := by
  have up : ∀ {i : Nat} {r : RB}, R i = some r → memN i ids = true → onlyR ids R i = some r := fun h1 h2 => by simp [onlyR, h2, h1]
  have sub : ∀ {q : PV} {u : Value}, Rep w X noRefs q u → Rep w X' noRefs q u := fun h => h.mono (Grow.refl w _) (fun k _ hn hx => hn (hX k hx)) (RExt.no _)
  cases h with
  | ptr _ id b k base j h hb hk => exact .ptr _ id b k base j (up h hm) hb hk
  | eptr _ id b k base i j cl h hb hl hk => exact .eptr _ id b k base i j cl (up h hm) hb hl hk
  | eptrS _ id b i j cl _ h hb hl h1 => exact .eptrS _ id b i j cl _ (up h hm) hb hl h1
  | own _ id b k base off len cl c cs et fr h hb hl hk h1 h2 h3 hw h4 => exact .own _ id b k base off len cl c cs et fr (up h hm) hb hl hk h1 h2 h3 hw h4
  | ownZ _ id b ad cl h hb hl => exact .ownZ _ id b ad cl (up h hm) hb hl
  | ownS _ id b off len cl _ h hb hl h1 => exact .ownS _ id b off len cl _ (up h hm) hb hl h1
  | func => cases hm
  | iface => cases hm
  | agg => cases hm
  | tuple => cases hm
  | any _ v => exact .any _ v
  | undef => exact .undef _
  | bool _ b => exact .bool _ b
  | int _ k n => exact .int _ k n
  | str _ s => exact .str _ s
  | nilp => exact .nilp _
  | nilf => exact .nilf _
  | nili => exact .nili _
  | nul _ ad => exact .nul _ ad
  | rptr _ k o cells vs hk hs hc hr => exact .rptr _ k o cells vs (fun hx => hk (hX k hx)) hs hc fun i pv hi => sub (hr i pv hi)
  | ro0 _ ad c => exact .ro0 _ ad c
  | ro _ k o sz rows c vs hk hs hl hz hc hr => exact .ro _ k o sz rows c vs (fun hx => hk (hX k hx)) hs hl hz hc fun i row j pv hi hj => sub (hr i row j pv hi hj)

theorem mentL_get {ids : List Nat} : ∀ {l : List PV}, mentL ids l = true → ∀ (i : Nat) p, l[i]? = some p → ment1 ids p = true
  | [], _, i, p, h => by simp at h
  | q :: r, h, i, p, hp => by
    simp only [mentL] at h
    split at h <;> first | (cases h; done) | skip
    rename_i hq
    cases i with
    | zero => simp at hp; subst hp; exact hq
    | succ i => simp at hp; exact mentL_get h i p hp

theorem ment_rep {ids : List Nat} {X X' : Nat → Prop} {p : PV} {v : Value} (h : Rep w X R p v) (hm : ment ids p = true) (hX : ∀ k, X' k → X k) : Rep w X' (onlyR ids R) p v := by
  unfold ment at hm
  split at hm
  · cases h with
    | agg _ _ arr hl h1 h => exact .agg _ _ arr hl h1 fun i pv u hp hu => ment1_rep (h i pv u hp hu) (mentL_get hm i pv hp) hX
  · cases h with
    | tuple _ _ arr hl h => exact .tuple _ _ arr hl fun i pv u hp hu => ment1_rep (h i pv u hp hu) (mentL_get hm i pv hp) hX
  · cases h with
    | func _ _ _ arr hl h1 h => exact .func _ _ _ arr hl h1 fun i pv u hp hu => ment1_rep (h i pv u hp hu) (mentL_get hm i pv hp) hX
  · cases h with
    | iface _ _ _ u h => cases h with
      | agg _ _ arr hl h1 h => exact .iface _ _ _ _ (.agg _ _ arr hl h1 fun i pv u hp hu => ment1_rep (h i pv u hp hu) (mentL_get hm i pv hp) hX)
  · cases h with
    | iface _ _ _ u h => exact .iface _ _ _ _ (ment1_rep h hm hX)
  · exact ment1_rep h hm hX

theorem keepE_spec {ids : List Nat} : ∀ {ts : List Nat} {e : Env}, keepE ids env ts = some e → ∀ t, (getT e t = getT env t ∧ ment ids (getT env t) = true) ∨ getT e t = .any
  | [], e, h, t => by simp only [keepE] at h; cases h; exact .inr rfl
  | i :: r, e, h, t => by
    simp only [keepE] at h
    split at h <;> cases h
    rename_i e' hm hr
    simp only [getT]
    cases hb : Nat.beq i t with
    | true => have := nbeq_iff.1 hb; subst this; exact .inl ⟨rfl, hm⟩
    | false => exact keepE_spec hr t

theorem keepH_spec {ids : List Nat} : ∀ {l : List Nat} {h : Heap}, keepH ids H l = some h → (∀ i, hget h i = if i ∈ l then hget H i else none) ∧ ∀ i cs, hget h i = some (.box cs) → mentL ids cs = true
  | [], h, e => by simp only [keepH] at e; cases e; exact ⟨fun i => by simp [hget], fun i cs h => by cases h⟩
  | j :: r, h, e => by
    simp only [keepH] at e
    have cons : ∀ (b : Blk) (h' : Heap), hget H j = some b → keepH ids H r = some h' → (∀ cs, b = .box cs → mentL ids cs = true) →
        (∀ i, hget ((j, b) :: h') i = if i ∈ j :: r then hget H i else none) ∧ ∀ i cs, hget ((j, b) :: h') i = some (.box cs) → mentL ids cs = true := by
      intro b h' hj hr hb
      obtain ⟨h1, h2⟩ := keepH_spec hr
      refine ⟨fun i => ?_, fun i cs hi => ?_⟩
      · simp only [hget]
        cases hbq : Nat.beq j i with
        | true => have := nbeq_iff.1 hbq; subst this; simp [hj]
        | false => have := nbeq_false hbq; simp [h1 i, Ne.symm this]
      · simp only [hget] at hi
        cases hbq : Nat.beq j i with
        | true => rw [hbq] at hi; cases hi; exact hb cs rfl
        | false => rw [hbq] at hi; exact h2 i cs hi
    split at e
    · rename_i cs h' hj hr
      split at e <;> cases e
      rename_i hm
      exact cons _ _ hj hr (fun cs' e => by cases e; exact hm)
    · rename_i b h' hne hj hr
      cases e
      exact cons _ _ hj hr (fun cs' e => absurd e (hne cs'))
    · rename_i h' hj hr
      cases e
      obtain ⟨h1, h2⟩ := keepH_spec hr
      refine ⟨fun i => ?_, h2⟩
      rw [h1]
      by_cases hi : i = j
      · subst hi; simp [hj]
      · simp [hi]
    · cases e

theorem keep_ok (hI : Inv cx gs N w0 K w R H env a) {ts ids : List Nat} {e : Env} {h : Heap} (he : keepE ids env ts = some e) (hh : keepH ids H ids = some h) : ∃ R', Inv cx gs N w0 K w R' h e a := by
  obtain ⟨k1, k2⟩ := keepH_spec hh
  have hg : ∀ i b, hget h i = some b → hget H i = some b ∧ i ∈ ids := fun i b hi => by
    rw [k1] at hi
    split at hi
    · rename_i hm; exact ⟨hi, hm⟩
    · cases hi
  have hR : ∀ i r, onlyR ids R i = some r → R i = some r := fun i r hr => by
    simp only [onlyR] at hr
    split at hr
    · exact hr
    · cases hr
  have hO : ∀ k, Own h (onlyR ids R) k → Own H R k := by
    rintro k ⟨i, b, r, o, h1, h2, h3, h4⟩
    exact ⟨i, b, r, o, (hg i b h1).1, h2, hR i r h3, h4⟩
  have hX : ∀ k, Xof h (onlyR ids R) k → Xof H R k := fun k hk => hk.imp id (hO k)
  have hH := hI.heap
  refine ⟨onlyR ids R, ⟨hH.flt, fun i b r k o hi hd hr hk => hH.off i b r k o (hg i b hi).1 hd (hR i r hr) hk, fun i hi => ?_, fun i b hi => ?_, fun i i' b b' r r' k o o' hi hi' hd hd' hr hr' => hH.inj i i' b b' r r' k o o' (hg i b hi).1 (hg i' b' hi').1 hd hd' (hR i r hr) (hR i' r' hr')⟩,
    fun t => ?_, fun g hgg => (hI.glob g hgg).mono (Grow.refl w _) (fun k _ hn hx => hn (hX k hx)) (RExt.refl _), hI.size, hI.calm, hI.grow, fun k hk ho => hI.own k hk (hO k ho)⟩
  · simp only [onlyR]
    split
    · rename_i hm
      rw [k1, if_pos (memN_iff.1 hm)] at hi
      exact hH.dom i hi
    · rfl
  · obtain ⟨h1, h2⟩ := hg i b hi
    obtain ⟨r, q1, q2⟩ := hH.has i b h1
    refine ⟨r, by simp [onlyR, memN_iff.2 h2, q1], ?_⟩
    cases b with
    | box cells =>
      obtain ⟨b1, k, base, cs, et, b2, b3, b4, b5⟩ := q2
      refine ⟨b1, k, base, cs, et, b2, b3, b4, fun j pv hj => ?_⟩
      obtain ⟨v, v1, v2, v3⟩ := b5 j pv hj
      exact ⟨v, v1, v2, ment1_rep v3 (mentL_get (k2 i cells hi) j pv hj) hX⟩
    | arr sz rows => exact BRel.mono (b := .arr sz rows) (Grow.refl w _) (fun k _ hn hx => hn (hX k hx)) (RExt.no _) (fun _ _ _ => rfl) (show BRel w _ noRefs r (.arr sz rows) from q2)
    | froz sz rows => exact BRel.mono (b := .froz sz rows) (Grow.refl w _) (fun k _ hn hx => hn (hX k hx)) (RExt.no _) (fun _ _ _ => rfl) (show BRel w _ noRefs r (.froz sz rows) from q2)
    | iter s pos => exact q2
    | dead => trivial
  · rcases keepE_spec he t with ⟨e1, e2⟩ | e1
    · rw [e1]; exact ment_rep (hI.env t) e2 hX
    · rw [e1]; exact .any _ _

/-- A slice without room gets a block. -/
theorem name_ok (hH : HRel w R H) {id sz : Nat} (hid : hget H id = none) :
    HRel w (upR R id ⟨false, none, sz, 0⟩) (hset H id (.arr sz [])) ∧ RExt R (upR R id ⟨false, none, sz, 0⟩) ∧ (∀ k, Own (hset H id (.arr sz [])) (upR R id ⟨false, none, sz, 0⟩) k → Own H R k) := by
  have hRid := hH.dom id hid
  have hO : ∀ k, Own (hset H id (.arr sz [])) (upR R id ⟨false, none, sz, 0⟩) k → Own H R k := by
    rintro k ⟨i, b, r, o, h1, h2, h3, h4⟩
    rw [hget_hset] at h1
    by_cases e : i = id
    · subst e; rw [upR_same] at h3; cases h3; cases h4
    · rw [if_neg e] at h1; rw [upR_ne R _ e] at h3; exact ⟨i, b, r, o, h1, h2, h3, h4⟩
  have hX : ∀ k, k < w.heap.size → ¬ Xof H R k → ¬ Xof (hset H id (.arr sz [])) (upR R id ⟨false, none, sz, 0⟩) k := fun k _ hn hx => hn (hx.imp _root_.id (hO k))
  refine ⟨hH.change (Grow.refl w _) (RExt.new hRid _) hX ?_ ?_ ?_ ?_, RExt.new hRid _, hO⟩
  · intro j hj
    rw [hget_hset] at hj
    by_cases e : j = id
    · rw [if_pos e] at hj; cases hj
    · rw [if_neg e] at hj; rw [upR_ne R _ e]; exact hH.dom j hj
  · intro j b hj
    rw [hget_hset] at hj
    by_cases e : j = id
    · rw [if_pos e] at hj; cases hj; subst e
      exact .inr ⟨_, upR_same R _ _, rfl, rfl, rfl, .inl ⟨rfl, rfl⟩⟩
    · rw [if_neg e] at hj
      exact .inl ⟨hj, upR_ne R _ e, .inr fun _ _ _ _ _ => rfl⟩
  · intro j j' b b' r r' k o o' hj hj' hd hd' hr hr' hk hk'
    rw [hget_hset] at hj hj'
    by_cases e : j = id
    · subst e; rw [upR_same] at hr; cases hr; cases hk
    · by_cases e' : j' = id
      · subst e'; rw [upR_same] at hr'; cases hr'; cases hk'
      · rw [if_neg e] at hj; rw [if_neg e'] at hj'; rw [upR_ne R _ e] at hr; rw [upR_ne R _ e'] at hr'
        exact hH.inj j j' b b' r r' k o o' hj hj' hd hd' hr hr' hk hk'
  · intro j b r k o hj hd hr hk
    rw [hget_hset] at hj
    by_cases e : j = id
    · subst e; rw [upR_same] at hr; cases hr; cases hk
    · rw [if_neg e] at hj; rw [upR_ne R _ e] at hr
      exact hH.off j b r k o hj hd hr hk

/-- The same heap, the same memory, other names. -/
theorem Inv.rename (hI : Inv cx gs N w0 K w R H env a) {R' : Refs} {H' : Heap} (hH : HRel w R' H') (hE : RExt R R') (hO : ∀ k, Own H' R' k → Own H R k) : Inv cx gs N w0 K w R' H' env a :=
  ⟨hH, fun t => (hI.env t).mono (Grow.refl w _) (fun k _ hn hx => hn (hx.imp id (hO k))) hE, fun g hg => (hI.glob g hg).mono (Grow.refl w _) (fun k _ hn hx => hn (hx.imp id (hO k))) (RExt.refl _),
   hI.size, hI.calm, hI.grow, fun k hk ho => hI.own k hk (hO k ho)⟩

theorem room_ok (hI : Inv cx gs N w0 K w R H env a) {t id sz : Nat} (ht : getT env t = .nul) (hid : hget H id = none) : ∃ R', Inv cx gs N w0 K w R' (hset H id (.arr sz [])) ((t, .own id 0 0 0) :: env) a := by
  obtain ⟨h1, h2, h3⟩ := name_ok hI.heap (sz := sz) hid
  have hI2 := hI.rename h1 h2 h3
  refine ⟨_, hI2.heap, fun t' => ?_, hI2.glob, hI2.size, hI2.calm, hI2.grow, hI2.own⟩
  simp only [getT]
  cases hb : Nat.beq t t' with
  | false => exact hI2.env t'
  | true =>
    have := nbeq_iff.1 hb
    subst this
    have hr := hI.env t
    rw [ht] at hr
    generalize a.tmps.getD t undef = u at hr
    cases hr with
    | nul _ ad => exact .ownZ _ id _ ad 0 (upR_same R id _) rfl rfl

/-- A variable whose cells are said otherwise. -/
theorem recell (hH : HRel w R H) {b : Nat} {cells cells' : List PV} (hb : hget H b = some (.box cells)) (hl : cells'.length = cells.length)
    (hc : ∀ (j : Nat) p p' v, cells[j]? = some p → cells'[j]? = some p' → Rep w (Xof H R) R p v → Rep w (Xof H R) R p' v) :
    HRel w R (hset H b (.box cells')) ∧ ∀ k, Own (hset H b (.box cells')) R k → Own H R k := by
  have hO : ∀ k, Own (hset H b (.box cells')) R k → Own H R k := by
    rintro k ⟨i, c, r, o, h1, h2, h3, h4⟩
    rw [hget_hset] at h1
    by_cases e : i = b
    · subst e; exact ⟨i, _, r, o, hb, rfl, h3, h4⟩
    · rw [if_neg e] at h1; exact ⟨i, c, r, o, h1, h2, h3, h4⟩
  have hX : ∀ k, k < w.heap.size → ¬ Xof H R k → ¬ Xof (hset H b (.box cells')) R k := fun k _ hn hx => hn (hx.imp _root_.id (hO k))
  have old : ∀ i c, hget (hset H b (.box cells')) i = some c → ∃ c0, hget H i = some c0 ∧ (deadB c = false → deadB c0 = false) := by
    intro i c hi
    rw [hget_hset] at hi
    by_cases e : i = b
    · subst e; exact ⟨_, hb, fun _ => rfl⟩
    · rw [if_neg e] at hi; exact ⟨c, hi, fun h => h⟩
  refine ⟨hH.change (Grow.refl w _) (RExt.refl R) hX (fun i hi => ?_) (fun i c hi => ?_) (fun i i' c c' r r' k o o' hi hi' hd hd' => ?_) (fun i c r k o hi hd => ?_), hO⟩
  · rw [hget_hset] at hi
    by_cases e : i = b
    · rw [if_pos e] at hi; cases hi
    · rw [if_neg e] at hi; exact hH.dom i hi
  · rw [hget_hset] at hi
    by_cases e : i = b
    · rw [if_pos e] at hi; cases hi; subst e
      obtain ⟨r, q1, b1, k, base, cs, et, b2, b3, b4, b5⟩ := hH.has i _ hb
      refine .inr ⟨r, q1, b1, k, base, cs, et, b2, b3, by rw [hl]; exact b4, fun j p' hj => ?_⟩
      have hjl : j < cells.length := by rw [← hl]; exact (List.getElem?_eq_some_iff.1 hj).1
      obtain ⟨v, v1, v2, v3⟩ := b5 j cells[j] (by simp)
      exact ⟨v, v1, v2, (hc j cells[j] p' v (by simp) hj v3).mono (Grow.refl w _) hX (RExt.refl R)⟩
    · rw [if_neg e] at hi; exact .inl ⟨hi, rfl, .inr fun _ _ _ _ _ => rfl⟩
  · obtain ⟨c0, h1, h2⟩ := old i c hi
    obtain ⟨c0', h1', h2'⟩ := old i' c' hi'
    exact hH.inj i i' c0 c0' r r' k o o' h1 h1' (h2 hd) (h2' hd')
  · obtain ⟨c0, h1, h2⟩ := old i c hi
    exact hH.off i c0 r k o h1 (h2 hd)

theorem set_get {cells : List PV} {j i : Nat} {q p' : PV} (h : (cells.set j q)[i]? = some p') : (i = j ∧ p' = q) ∨ (i ≠ j ∧ cells[i]? = some p') := by
  rw [List.getElem?_set] at h
  split at h
  · rename_i e
    split at h <;> first | (cases h; done) | skip
    cases h; exact .inl ⟨e.symm, rfl⟩
  · rename_i e; exact .inr ⟨fun h => e h.symm, h⟩

theorem roomC0_ok (hI : Inv cx gs N w0 K w R H env a) {b j id esz : Nat} {cells : List PV} (hb : hget H b = some (.box cells)) (hj : cells[j]? = some .nul) (hid : hget H id = none) :
    ∃ R', Inv cx gs N w0 K w R' (hset (hset H b (.box (cells.set j (.own id 0 0 0)))) id (.arr esz [])) env a := by
  obtain ⟨h1, h2, h3⟩ := name_ok hI.heap (sz := esz) hid
  have hI2 := hI.rename h1 h2 h3
  have hne : b ≠ id := fun e => by subst e; rw [hb] at hid; cases hid
  have hb2 : hget (hset H id (.arr esz [])) b = some (.box cells) := by rw [hget_hset, if_neg hne]; exact hb
  obtain ⟨g1, g2⟩ := recell hI2.heap (cells' := cells.set j (.own id 0 0 0)) hb2 (by simp) (fun i p p' v hp hp' hr => by
    rcases set_get hp' with ⟨rfl, rfl⟩ | ⟨_, h⟩
    · rw [hj] at hp; cases hp
      cases hr with
      | nul _ ad => exact .ownZ _ id _ ad 0 (upR_same R id _) rfl rfl
    · rw [h] at hp; cases hp; exact hr)
  refine ⟨_, (hI2.rename g1 (RExt.refl _) g2).congr (fun i => ?_) (fun _ => rfl)⟩
  simp only [hget_hset]
  by_cases e1 : i = b
  · subst e1; simp [hne]
  · simp [e1]

theorem roomC1_ok (hI : Inv cx gs N w0 K w R H env a) {b j id x len sz : Nat} {cells : List PV} {rows : List (List PV)} (hb : hget H b = some (.box cells)) (hj : cells[j]? = some (.own x 0 len len)) (hx : hget H x = some (.arr sz rows))
    (hid : hget H id = none) (hl : rows.length = len) : ∃ R', Inv cx gs N w0 K w R' (hset (hset (hset H b (.box (cells.set j (.own id 0 len len)))) x .dead) id (.arr sz rows)) env a := by
  have hH := hI.heap
  obtain ⟨r, hr, hB⟩ := hH.has x _ hx
  have hRid := hH.dom id hid
  have hbx : b ≠ x := fun e => by subst e; rw [hb] at hx; cases hx
  have hbi : b ≠ id := fun e => by subst e; rw [hb] at hid; cases hid
  have hxi : x ≠ id := fun e => by subst e; rw [hx] at hid; cases hid
  have hRE : RExt R (upR R id r) := RExt.new hRid r
  have hg : ∀ i, hget (hset (hset (hset H b (.box (cells.set j (.own id 0 len len)))) x .dead) id (.arr sz rows)) i =
      if i = id then some (.arr sz rows) else if i = x then some .dead else if i = b then some (.box (cells.set j (.own id 0 len len))) else hget H i := fun i => by simp only [hget_hset]
  have old : ∀ i c q k o, hget (hset (hset (hset H b (.box (cells.set j (.own id 0 len len)))) x .dead) id (.arr sz rows)) i = some c → deadB c = false → upR R id r i = some q → q.blk = some (k, o) →
      ∃ i0 c0, hget H i0 = some c0 ∧ deadB c0 = false ∧ R i0 = some q ∧ liveB c0 = liveB c ∧ (if i = id then i0 = x else (i0 = i ∧ i ≠ x)) := by
    intro i c q k o hi hd hq hk
    rw [hg] at hi
    by_cases e1 : i = id
    · rw [if_pos e1] at hi; simp only [if_pos e1]; cases hi; subst e1; rw [upR_same] at hq; cases hq
      exact ⟨x, _, hx, rfl, hr, rfl, rfl⟩
    · rw [if_neg e1] at hi; simp only [if_neg e1]; rw [upR_ne R r e1] at hq
      by_cases e2 : i = x
      · rw [if_pos e2] at hi; cases hi; cases hd
      · rw [if_neg e2] at hi
        by_cases e3 : i = b
        · rw [if_pos e3] at hi; cases hi; subst e3; exact ⟨i, _, hb, rfl, hq, rfl, rfl, e2⟩
        · rw [if_neg e3] at hi; exact ⟨i, c, hi, hd, hq, rfl, rfl, e2⟩
  have hO : ∀ k, Own (hset (hset (hset H b (.box (cells.set j (.own id 0 len len)))) x .dead) id (.arr sz rows)) (upR R id r) k → Own H R k := by
    rintro k ⟨i, c, q, o, h1, h2, h3, h4⟩
    obtain ⟨i0, c0, q1, _, q3, q4, _⟩ := old i c q k o h1 (live_dead h2) h3 h4
    exact ⟨i0, c0, q, o, q1, by rw [q4]; exact h2, q3, h4⟩
  have hX : ∀ k, k < w.heap.size → ¬ Xof H R k → ¬ Xof (hset (hset (hset H b (.box (cells.set j (.own id 0 len len)))) x .dead) id (.arr sz rows)) (upR R id r) k := fun k _ hn hxx => hn (hxx.imp _root_.id (hO k))
  refine ⟨upR R id r, hI.rename (hH.change (Grow.refl w _) hRE hX (fun i hi => ?_) (fun i c hi => ?_) (fun i i' c c' q q' k o o' hi hi' hd hd' hq hq' hk hk' => ?_) (fun i c q k o hi hd hq hk => ?_)) hRE hO⟩
  · rw [hg] at hi
    by_cases e1 : i = id
    · rw [if_pos e1] at hi; cases hi
    · rw [if_neg e1] at hi; rw [upR_ne R r e1]
      by_cases e2 : i = x
      · rw [if_pos e2] at hi; cases hi
      · rw [if_neg e2] at hi
        by_cases e3 : i = b
        · rw [if_pos e3] at hi; cases hi
        · rw [if_neg e3] at hi; exact hH.dom i hi
  · rw [hg] at hi
    by_cases e1 : i = id
    · rw [if_pos e1] at hi; cases hi; subst e1
      exact .inr ⟨r, upR_same R _ r, BRel.mono (b := .arr sz rows) (Grow.refl w _) hX hRE (fun _ _ _ => rfl) hB⟩
    · rw [if_neg e1] at hi
      by_cases e2 : i = x
      · rw [if_pos e2] at hi; cases hi; subst e2
        exact .inr ⟨r, by rw [upR_ne R r e1]; exact hr, trivial⟩
      · rw [if_neg e2] at hi
        by_cases e3 : i = b
        · rw [if_pos e3] at hi; cases hi; subst e3
          obtain ⟨rb, q1, b1, k, base, cs, et, b2, b3, b4, b5⟩ := hH.has i _ hb
          refine .inr ⟨rb, by rw [upR_ne R r e1]; exact q1, b1, k, base, cs, et, b2, b3, by simpa using b4, fun p pv hp => ?_⟩
          rcases set_get hp with ⟨rfl, rfl⟩ | ⟨_, h⟩
          · obtain ⟨v, v1, v2, v3⟩ := b5 _ _ hj
            refine ⟨v, v1, v2, ?_⟩
            have hcl : r.cl = len := by
              have : r.cl = rows.length := hB.2.1
              omega
            cases v3 with
            | own _ _ rr k base off _ _ c cs et fr h hbb hll hk h1 h2 h3 hw h4 =>
              rw [hr] at h; cases h
              exact .own _ id r k base 0 len len c cs et fr (upR_same R id r) hbb hll hk h1 h2 h3 hw h4
            | ownZ _ _ rr ad _ h hbb hll =>
              rw [hr] at h; cases h
              exact .ownZ _ id r ad 0 (upR_same R id r) hbb hll
            | ownS _ _ rr _ _ _ _ h hbb hll h1 =>
              rw [hr] at h; cases h
              omega
          · obtain ⟨v, v1, v2, v3⟩ := b5 p pv h
            exact ⟨v, v1, v2, v3.mono (Grow.refl w _) hX hRE⟩
        · rw [if_neg e3] at hi
          exact .inl ⟨hi, upR_ne R r e1, .inr fun _ _ _ _ _ => rfl⟩
  · obtain ⟨i0, c0, q1, q2, q3, _, q5⟩ := old i c q k o hi hd hq hk
    obtain ⟨i0', c0', q1', q2', q3', _, q5'⟩ := old i' c' q' k o' hi' hd' hq' hk'
    have := hH.inj i0 i0' c0 c0' q q' k o o' q1 q1' q2 q2' q3 q3' hk hk'
    subst this
    by_cases e1 : i = id <;> by_cases e2 : i' = id
    · rw [e1, e2]
    · rw [if_pos e1] at q5; rw [if_neg e2] at q5'
      exact (q5'.2 (q5'.1 ▸ q5)).elim
    · rw [if_neg e1] at q5; rw [if_pos e2] at q5'
      exact (q5.2 (q5.1 ▸ q5')).elim
    · rw [if_neg e1] at q5; rw [if_neg e2] at q5'
      exact q5.1.symm.trans q5'.1
  · obtain ⟨i0, c0, q1, q2, q3, _, _⟩ := old i c q k o hi hd hq hk
    exact hH.off i0 c0 q k o q1 q2 q3 hk

theorem gh_ok (hI : Inv cx gs N w0 K w R H env a) {g : Gh} {env' : Env} {H' : Heap} (he : evGh g env H = some (env', H')) : ∃ R', Inv cx gs N w0 K w R' H' env' a := by
  cases g with
  | keep ts ids =>
    simp only [evGh] at he
    split at he <;> first | (cases he; done) | skip
    rename_i e h h1 h2
    split at he <;> cases he
    exact keep_ok hI h1 h2
  | room t id esz =>
    simp only [evGh] at he
    split at he <;> cases he
    · rename_i h1 h2
      exact room_ok hI h1 h2
    · exact ⟨R, hI⟩
  | roomC b j id esz =>
    simp only [evGh] at he
    split at he <;> first | (cases he; done) | skip
    rename_i cells hb
    split at he <;> first | (cases he; done) | skip
    · rename_i hj
      split at he <;> cases he
      rename_i hid
      exact roomC0_ok hI hb hj hid
    · rename_i x off len cl hj
      split at he
      · cases he; exact ⟨R, hI⟩
      · split at he <;> first | (cases he; done) | skip
        rename_i sz rows hx hid
        split at he <;> cases he
        rename_i h1 h2 h3
        have h2 := nbeq_iff.1 h2
        have h1 := nbeq_iff.1 h1
        have h3 := nbeq_iff.1 h3
        subst h2; subst h3
        exact roomC1_ok hI hb hj hx hid h1

end

end Go.Ev

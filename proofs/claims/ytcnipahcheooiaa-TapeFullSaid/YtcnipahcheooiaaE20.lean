/-
  A call: what is handed over goes, what comes back is there, everything else is as it was.
-/
import Derived.Test.YtcnipahcheooiaaE19
namespace Go.Ev
open Go
set_option linter.unusedSectionVars false
set_option linter.unusedSimpArgs false
set_option linter.unusedVariables false
variable [Frame]

section
variable {P : Program} {w w' : World} {R : Refs} {H : Heap}

/-- Behind a call, for blocks that come and blocks that go. -/
theorem back_core (hH : HRel w R H) {gone ks : List Nat} (hK : KsOf R gone ks) (hgone : ∀ i ∈ gone, ∃ sz rows, hget H i = some (.arr sz rows)) (hG : Grow w (fun k => k ∈ ks) w')
    {fr u : List (Nat × Blk)} (hfr : ∀ p ∈ fr, p.1 ∉ gone ∧ ∃ sz rows, p.2 = .froz sz rows ∧ hget H p.1 = some (.arr sz rows)) (hu : ∀ j ∈ keys u, hget H j = none)
    {Z : Nat → Prop} {R' : Refs} {ks' ks1 : List Nat} (hC : Came w' Z u R R' ks' ks1) (hks : ∀ k ∈ ks', Z k ∧ (k ∈ ks ∨ w.heap.size ≤ k)) (hlt : ∀ k, Z k → k < w'.heap.size) (hF : ∀ k, Frame.F k → Z k)
    (hX : ∀ id b r k o, hget H id = some b → liveB b = true → id ∉ gone → (∀ p ∈ fr, p.1 ≠ id) → R id = some r → r.blk = some (k, o) → Z k)
    {pv : PV} {v : Value} {rd : List Nat} (hv : ∀ X : Nat → Prop, (∀ k, X k → k < w'.heap.size → Z k) → (∀ k ∈ ks', k ∉ ks1 → ¬ X k) → Rep w' X R' pv v) :
    Post w R H ⟨pv, deads gone ++ fr ++ u, rd⟩ v w' R' := by
  have hl : ∀ j, hget (hsets (deads gone ++ fr ++ u) H) j = match lastOf u j with | some c => some c | none => match lastOf fr j with | some c => some c | none => match lastOf (deads gone) j with | some c => some c | none => hget H j := by
    intro j
    rw [hget_last, lastOf_append, lastOf_append]
    cases lastOf u j with
    | some c => rfl
    | none => cases lastOf fr j with
      | some c => rfl
      | none => rfl
  -- each block: one that came, or one that was
  have class_ : ∀ j b, hget (hsets (deads gone ++ fr ++ u) H) j = some b → ((j, b) ∈ u) ∨ (j ∉ keys u ∧ ((j, b) ∈ fr ∨ (j ∈ gone ∧ b = .dead) ∨ (j ∉ gone ∧ (∀ p ∈ fr, p.1 ≠ j) ∧ hget H j = some b))) := by
    intro j b hj
    rw [hl j] at hj
    split at hj
    · rename_i c hc; cases hj; exact .inl (lastOf_mem hc)
    · rename_i h1
      have hk : j ∉ keys u := fun h => by obtain ⟨c, hc⟩ := keys_mem.1 h; exact lastOf_none h1 _ hc rfl
      split at hj
      · rename_i c hc; cases hj; exact .inr ⟨hk, .inl (lastOf_mem hc)⟩
      · rename_i h2
        split at hj
        · rename_i c hc; cases hj
          obtain ⟨d1, d2⟩ := deads_mem (lastOf_mem hc)
          exact .inr ⟨hk, .inr (.inl ⟨d1, d2⟩)⟩
        · rename_i h3
          exact .inr ⟨hk, .inr (.inr ⟨deads_none h3, lastOf_none h2, hj⟩)⟩
  have hgdead : ∀ i ∈ gone, ∃ b, hget H i = some b ∧ deadB b = false ∧ liveB b = true := fun i hi => by
    obtain ⟨sz, rows, h⟩ := hgone i hi; exact ⟨_, h, rfl, rfl⟩
  have ks_own : ∀ k ∈ ks, Own H R k := fun k hk => by
    obtain ⟨i, hi, r, o, h1, h2⟩ := hK.mem k hk
    obtain ⟨b, h3, _, h4⟩ := hgdead i hi
    exact ⟨i, b, r, o, h3, h4, h1, h2⟩
  have ks_F : ∀ k ∈ ks, ¬ Frame.F k := fun k hk => by
    obtain ⟨i, hi, r, o, h1, h2⟩ := hK.mem k hk
    obtain ⟨b, h3, h4, _⟩ := hgdead i hi
    exact hH.off i b r k o h3 h4 h1 h2
  have ks_id : ∀ id b r k o, hget H id = some b → deadB b = false → id ∉ gone → R id = some r → r.blk = some (k, o) → k ∉ ks := fun id b r k o h1 h2 h3 h4 h5 hk => by
    obtain ⟨i, hi, r', o', q1, q2⟩ := hK.mem k hk
    obtain ⟨b', q3, q4, _⟩ := hgdead i hi
    have := hH.inj id i b b' r r' k o o' h1 q3 h2 q4 h4 q1 h5 q2
    subst this; exact h3 hi
  have hold : ∀ id, id ∉ keys u → R' id = R id := hC.old
  have hRE : RExt R R' := fun id r hr => by
    refine ⟨r, ?_, .inl rfl⟩
    by_cases hid : id ∈ keys u
    · rw [hH.dom id (hu id hid)] at hr; cases hr
    · rw [hold id hid]; exact hr
  have hGO : Grow w (Own H R) w' := hG.mono ks_own
  -- where blocks are
  have oldblk : ∀ j b r k o, hget (hsets (deads gone ++ fr ++ u) H) j = some b → deadB b = false → (j, b) ∉ u → R' j = some r → r.blk = some (k, o) →
      ∃ b0, hget H j = some b0 ∧ deadB b0 = false ∧ j ∉ gone ∧ R j = some r ∧ k ∉ ks ∧ k < w.heap.size ∧ (liveB b = true → b0 = b ∧ ∀ p ∈ fr, p.1 ≠ j) := by
    intro j b r k o hj hd hnu hr hk
    rcases class_ j b hj with h | ⟨hku, h | ⟨_, rfl⟩ | ⟨h1, h2, h3⟩⟩
    · exact (hnu h).elim
    · obtain ⟨hng, sz, rows, e1, e2⟩ := hfr _ h
      simp only at e1 e2 hng
      subst e1
      rw [hold j hku] at hr
      exact ⟨_, e2, rfl, hng, hr, ks_id j _ r k o e2 rfl hng hr hk, hH.lt e2 rfl hr hk, fun h => by cases h⟩
    · cases hd
    · rw [hold j hku] at hr
      exact ⟨_, h3, hd, h1, hr, ks_id j _ r k o h3 hd h1 hr hk, hH.lt h3 hd hr hk, fun _ => ⟨rfl, h2⟩⟩
  have newblk : ∀ j b r k o, (j, b) ∈ u → R' j = some r → r.blk = some (k, o) → k ∈ ks1 := by
    intro j b r k o hj hr hk
    obtain ⟨r0, q1, _, _, q4⟩ := hC.new j b hj
    rw [hr] at q1; cases q1
    exact q4 k o hk
  have hXZ : ∀ k, Xof (hsets (deads gone ++ fr ++ u) H) R' k → k < w'.heap.size → Z k := by
    rintro k (hk | ⟨j, b, r, o, hj, hl', hr, hk⟩) _
    · exact hF k hk
    · by_cases hmu : (j, b) ∈ u
      · exact (hks k (hC.sub k (newblk j b r k o hmu hr hk))).1
      · obtain ⟨b0, q1, q2, q3, q4, _, _, q7⟩ := oldblk j b r k o hj (live_dead hl') hmu hr hk
        obtain ⟨rfl, q8⟩ := q7 hl'
        exact hX j b0 r k o q1 hl' q3 q8 q4 hk
  have hXks : ∀ k ∈ ks', k ∉ ks1 → ¬ Xof (hsets (deads gone ++ fr ++ u) H) R' k := by
    rintro k hk hk1 (hf | ⟨j, b, r, o, hj, hl', hr, hk2⟩)
    · rcases (hks k hk).2 with h | h
      · exact ks_F k h hf
      · have := hH.flt k hf; omega
    · by_cases hmu : (j, b) ∈ u
      · exact hk1 (newblk j b r k o hmu hr hk2)
      · obtain ⟨b0, q1, q2, q3, q4, q5, q6, _⟩ := oldblk j b r k o hj (live_dead hl') hmu hr hk2
        rcases (hks k hk).2 with h | h
        · exact q5 h
        · omega
  have hout : ∀ k, k < w.heap.size → ¬ Xof H R k → ¬ Xof (hsets (deads gone ++ fr ++ u) H) R' k := by
    rintro k hk hn (hf | ⟨j, b, r, o, hj, hl', hr, hk2⟩)
    · exact hn (.inl hf)
    · by_cases hmu : (j, b) ∈ u
      · rcases (hks k (hC.sub k (newblk j b r k o hmu hr hk2))).2 with h | h
        · exact hn (.inr (ks_own k h))
        · omega
      · obtain ⟨b0, q1, q2, q3, q4, _, _, q7⟩ := oldblk j b r k o hj (live_dead hl') hmu hr hk2
        obtain ⟨rfl, _⟩ := q7 hl'
        exact hn (.inr ⟨j, b0, r, o, q1, hl', q4, hk2⟩)
  refine ⟨?_, hRE, hGO, hout, hv _ hXZ hXks⟩
  refine hH.change hGO.weak hRE hout ?_ ?_ ?_ ?_
  · intro j hj
    rw [hl j] at hj
    split at hj <;> first | (cases hj; done) | skip
    rename_i h1
    have hk : j ∉ keys u := fun h => by obtain ⟨c, hc⟩ := keys_mem.1 h; exact lastOf_none h1 _ hc rfl
    split at hj <;> first | (cases hj; done) | skip
    split at hj <;> first | (cases hj; done) | skip
    rw [hold j hk]; exact hH.dom j hj
  · intro j b hj
    rcases class_ j b hj with h | ⟨hku, h | ⟨hg, rfl⟩ | ⟨h1, h2, h3⟩⟩
    · obtain ⟨r, q1, _, q3, _⟩ := hC.new j b h
      exact .inr ⟨r, q1, q3 _ _ hXZ⟩
    · obtain ⟨hng, sz, rows, e1, e2⟩ := hfr _ h
      simp only at e1 e2 hng
      subst e1
      obtain ⟨r, q1, q2⟩ := hH.has j _ e2
      refine .inr ⟨r, by rw [hold j hku]; exact q1, ?_⟩
      have : BRel w (Xof H R) R r (.froz sz rows) := q2
      exact this.mono hGO.weak hout hRE fun k o hk => hG.same k (hH.lt e2 rfl q1 hk) (ks_id j _ r k o e2 rfl hng q1 hk)
    · obtain ⟨b0, q1, _, _⟩ := hgdead j hg
      obtain ⟨r, q2, _⟩ := hH.has j b0 q1
      exact .inr ⟨r, by rw [hold j hku]; exact q2, trivial⟩
    · refine .inl ⟨h3, hold j hku, ?_⟩
      cases hd : deadB b with
      | true => exact .inl rfl
      | false => exact .inr fun r k o hr hk => hG.same k (hH.lt h3 hd hr hk) (ks_id j b r k o h3 hd h1 hr hk)
  · intro j j' b b' r r' k o o' hj hj' hd hd' hr hr' hk hk'
    by_cases hm : (j, b) ∈ u <;> by_cases hm' : (j', b') ∈ u
    · exact hC.inj j j' r r' k o o' (keys_mem.2 ⟨b, hm⟩) (keys_mem.2 ⟨b', hm'⟩) hr hr' hk hk'
    · obtain ⟨_, _, _, _, _, q5, q6, _⟩ := oldblk j' b' r' k o' hj' hd' hm' hr' hk'
      rcases (hks k (hC.sub k (newblk j b r k o hm hr hk))).2 with h | h
      · exact (q5 h).elim
      · omega
    · obtain ⟨_, _, _, _, _, q5, q6, _⟩ := oldblk j b r k o hj hd hm hr hk
      rcases (hks k (hC.sub k (newblk j' b' r' k o' hm' hr' hk'))).2 with h | h
      · exact (q5 h).elim
      · omega
    · obtain ⟨b0, q1, q2, _, q4, _⟩ := oldblk j b r k o hj hd hm hr hk
      obtain ⟨b0', q1', q2', _, q4', _⟩ := oldblk j' b' r' k o' hj' hd' hm' hr' hk'
      exact hH.inj j j' b0 b0' r r' k o o' q1 q1' q2 q2' q4 q4' hk hk'
  · intro j b r k o hj hd hr hk hf
    by_cases hm : (j, b) ∈ u
    · rcases (hks k (hC.sub k (newblk j b r k o hm hr hk))).2 with h | h
      · exact ks_F k h hf
      · have := hH.flt k hf; omega
    · obtain ⟨b0, q1, q2, _, q4, _⟩ := oldblk j b r k o hj hd hm hr hk
      exact hH.off j b0 r k o q1 q2 q4 hk hf

end

end Go.Ev

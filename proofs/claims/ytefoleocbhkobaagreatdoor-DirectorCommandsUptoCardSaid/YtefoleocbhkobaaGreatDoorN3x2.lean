/-
  Part 2 of the proof.
-/
import Derived.Test.YtefoleocbhkobaaGreatDoorN3x1
import Derived.Lib.SliceRun
import Derived.Orders
namespace Go.Ev
open Go
set_option linter.unusedSectionVars false
set_option linter.unusedSimpArgs false
set_option linter.unusedVariables false
variable [Frame]
def lastOf : List (Nat × Blk) → Nat → Option Blk
  | [], _ => none
  | (i, b) :: r, j => match lastOf r j with
    | some c => some c
    | none => if j = i then some b else none
theorem hget_last : ∀ (l : List (Nat × Blk)) (H : Heap) (j : Nat), hget (hsets l H) j = match lastOf l j with | some c => some c | none => hget H j
  | [], _, _ => rfl
  | (i, b) :: r, H, j => by
    simp only [hsets, lastOf]
    rw [hget_last r, hget_hset]
    cases lastOf r j with
    | some c => rfl
    | none => by_cases e : j = i <;> simp [e]
theorem lastOf_append : ∀ (a b : List (Nat × Blk)) (j : Nat), lastOf (a ++ b) j = match lastOf b j with | some c => some c | none => lastOf a j
  | [], b, j => by simp only [List.nil_append, lastOf]; cases lastOf b j <;> rfl
  | (i, c) :: a, b, j => by
    simp only [List.cons_append, lastOf]
    rw [lastOf_append a b j]
    cases lastOf b j <;> rfl
theorem lastOf_mem : ∀ {l : List (Nat × Blk)} {j : Nat} {c : Blk}, lastOf l j = some c → (j, c) ∈ l
  | [], _, _, h => by cases h
  | (i, b) :: r, j, c, h => by
    simp only [lastOf] at h
    split at h
    · rename_i c' hc
      cases h
      exact .tail _ (lastOf_mem hc)
    · split at h <;> cases h
      subst_vars
      exact .head _
theorem lastOf_none : ∀ {l : List (Nat × Blk)} {j : Nat}, lastOf l j = none → ∀ p ∈ l, p.1 ≠ j
  | [], _, _, p, hp => by cases hp
  | (i, b) :: r, j, h, p, hp => by
    simp only [lastOf] at h
    split at h <;> first | (cases h; done) | skip
    rename_i hr
    split at h <;> first | (cases h; done) | skip
    rename_i hne
    cases hp with
    | head => exact fun e => hne e.symm
    | tail _ hp => exact lastOf_none hr p hp
theorem deads_mem : ∀ {l : List Nat} {p : Nat × Blk}, p ∈ deads l → p.1 ∈ l ∧ p.2 = .dead
  | [], p, h => by cases h
  | i :: r, p, h => by
    simp only [deads] at h
    cases h with
    | head => exact ⟨.head _, rfl⟩
    | tail _ h => exact ⟨.tail _ (deads_mem h).1, (deads_mem h).2⟩
theorem deads_none {l : List Nat} {j : Nat} (h : lastOf (deads l) j = none) : j ∉ l := by
  induction l with
  | nil => intro hj; cases hj
  | cons i r ih =>
    intro hj
    simp only [deads, lastOf] at h
    split at h <;> first | (cases h; done) | skip
    rename_i hr
    split at h <;> first | (cases h; done) | skip
    rename_i hne
    cases hj with
    | head => exact hne rfl
    | tail _ hj => exact ih hr hj
theorem keys_mem {l : List (Nat × Blk)} {j : Nat} : j ∈ keys l ↔ ∃ c, (j, c) ∈ l := by
  induction l with
  | nil => simp [keys]
  | cons p r ih =>
    obtain ⟨i, b⟩ := p
    simp only [keys, List.mem_cons, ih]
    constructor
    · rintro (rfl | ⟨c, hc⟩)
      · exact ⟨b, .inl rfl⟩
      · exact ⟨c, .inr hc⟩
    · rintro ⟨c, h | h⟩
      · cases h; exact .inl rfl
      · exact .inr ⟨c, h⟩
theorem keys_append : ∀ (a b : List (Nat × Blk)), keys (a ++ b) = keys a ++ keys b
  | [], _ => rfl
  | (i, c) :: a, b => by simp [keys, keys_append a b]
theorem newIds_spec {H : Heap} : ∀ {l : List (Nat × Blk)} {seen : List Nat}, newIds H l seen = true → (∀ j ∈ keys l, hget H j = none ∧ j ∉ seen) ∧ (keys l).Nodup
  | [], _, _ => ⟨fun j hj => (by cases hj), List.nodup_nil⟩
  | (i, b) :: r, seen, h => by
    simp only [newIds] at h
    split at h <;> first | (cases h; done) | skip
    rename_i hi
    split at h <;> first | (cases h; done) | skip
    rename_i hm
    obtain ⟨h1, h2⟩ := newIds_spec h
    refine ⟨fun j hj => ?_, List.nodup_cons.2 ⟨fun hj => (h1 i hj).2 (.head _), h2⟩⟩
    cases hj with
    | head => exact ⟨hi, memN_false hm⟩
    | tail _ hj => exact ⟨(h1 j hj).1, fun hs => (h1 j hj).2 (.tail _ hs)⟩
section
variable {w : World} {R : Refs} {H : Heap}
theorem adopt_fresh (hints : List (Nat × Nat)) (i sz : Nat) (rows : List (List PV)) :
    adopt hints i (.fresh sz rows) = (.ro rows, []) ∨ ∃ id, adopt hints i (.fresh sz rows) = (.own id 0 rows.length rows.length, [(id, .arr sz rows)]) := by
  induction hints with
  | nil => exact .inl rfl
  | cons p r ih =>
    obtain ⟨j, id⟩ := p
    simp only [adopt]
    cases hb : Nat.beq j i with
    | true => exact .inr ⟨id, rfl⟩
    | false => exact ih
theorem adopt_plain (hints : List (Nat × Nat)) (i : Nat) {p : PV} (h : isBorder p = false) : adopt hints i p = (p, []) := by
  cases p <;> first | (cases h; done) | (cases hints <;> rfl)
structure Came (w : World) (Z : Nat → Prop) (u : List (Nat × Blk)) (R R' : Refs) (ks ks1 : List Nat) : Prop where
  old : ∀ id, id ∉ keys u → R' id = R id
  sub : ∀ k ∈ ks1, k ∈ ks
  new : ∀ id c, (id, c) ∈ u → ∃ r, R' id = some r ∧ (∃ sz rows, c = .arr sz rows) ∧ (∀ (X : Nat → Prop) (R0 : Refs), (∀ k, X k → k < w.heap.size → Z k) → BRel w X R0 r c) ∧ ∀ k o, r.blk = some (k, o) → k ∈ ks1
  inj : ∀ id id' r r' k o o', id ∈ keys u → id' ∈ keys u → R' id = some r → R' id' = some r' → r.blk = some (k, o) → r'.blk = some (k, o') → id = id'
theorem adoptL_rep (hints : List (Nat × Nat)) {Z : Nat → Prop} : ∀ {ps : List PV} {vs : List Value} {ks : List Nat} (i : Nat) (R : Refs), ListR w Z ps vs ks → ks.Nodup → (keys (adoptL hints i ps).2).Nodup →
    (∀ id ∈ keys (adoptL hints i ps).2, R id = none) → ∃ R' ks1, Came w Z (adoptL hints i ps).2 R R' ks ks1 ∧ (adoptL hints i ps).1.length = vs.length ∧
      ∀ X : Nat → Prop, (∀ k, X k → k < w.heap.size → Z k) → (∀ k ∈ ks, k ∉ ks1 → ¬ X k) → ∀ (j : Nat) q v, (adoptL hints i ps).1[j]? = some q → vs[j]? = some v → Rep w X R' q v
  | [], _, _, i, R, h, _, _, _ => by
    cases h
    exact ⟨R, [], ⟨fun _ _ => rfl, fun _ h => h, fun id c h => (by cases h), fun id id' r r' k o o' h => (by cases h)⟩, rfl, fun X _ _ j q v hq => by simp [adoptL] at hq⟩
  | p :: ps, _, _, i, R, h, hks, hn, hR => by
    cases h with
    | cons _ v k1 _ vs k2 hc hr =>
      simp only [adoptL] at hn hR ⊢
      rw [keys_append] at hn hR
      obtain ⟨n1, n2, n3⟩ := List.nodup_append.1 hn
      obtain ⟨m1, m2, m3⟩ := List.nodup_append.1 hks
      have head : ∃ R1 kx, Came w Z (adopt hints i p).2 R R1 k1 kx ∧ ∀ X : Nat → Prop, (∀ k, X k → k < w.heap.size → Z k) → (∀ k ∈ k1, k ∉ kx → ¬ X k) → Rep w X R1 (adopt hints i p).1 v := by
        cases hc with
        | plain _ _ hb hrep =>
          rw [adopt_plain hints i hb]
          exact ⟨R, [], ⟨fun _ _ => rfl, fun _ h => h, fun id c h => (by cases h), fun id id' r r' k o o' h => (by cases h)⟩,
            fun X hX _ => hrep.mono (Grow.refl w _) (fun k hk hn hx => hn (hX k hx hk)) (RExt.no _)⟩
        | fresh sz rows _ _ hf =>
          rcases adopt_fresh hints i sz rows with e | ⟨id, e⟩
          · rw [e]
            refine ⟨R, [], ⟨fun _ _ => rfl, fun k h => (by cases h), fun id c h => (by cases h), fun id id' r r' k o o' h => (by cases h)⟩, fun X hX hk => ?_⟩
            cases hf with
            | none ad hr0 => subst hr0; exact .ro0 _ _ _
            | some k base c cs et hw hc' hs hrr =>
              have hnx : ¬ X k := hk k (.head _) (by simp)
              have := ro_view (w := w) (X := X) (off := 0) (len := rows.length) (c := c) hnx hw (hrr.mono (Grow.refl w _) (fun k hk hn hx => hn (hX k hx hk))) (by omega) hc'
              rw [List.drop_zero, List.take_length, Nat.zero_mul, Nat.add_zero] at this
              exact this.mono (Grow.refl w _) (fun _ _ h => h) (RExt.no _)
          · rw [e] at hn hR ⊢
            have hid : R id = none := hR id (by simp [keys])
            cases hf with
            | none ad hr0 =>
              subst hr0
              let r : RB := ⟨false, none, sz, 0⟩
              refine ⟨upR R id r, [], ⟨fun j hj => upR_ne R r (fun e => hj (by rw [e]; exact .head _)), fun k h => h, fun j c hj => ?_, fun j j' r1 r2 k o o' hj hj' => ?_⟩, fun X hX hk => .ownZ _ id r ad 0 (upR_same R id r) rfl rfl⟩
              · have : j = id ∧ c = .arr sz [] := by simpa using hj
                obtain ⟨rfl, rfl⟩ := this
                exact ⟨r, upR_same R _ r, ⟨_, _, rfl⟩, fun X R0 hX => ⟨rfl, rfl, rfl, .inl ⟨rfl, rfl⟩⟩, fun k o h => (by cases h)⟩
              · have h1 : j = id := by simpa [keys] using hj
                have h2 : j' = id := by simpa [keys] using hj'
                intros; rw [h1, h2]
            | some k base c cs et hw hc' hs hrr =>
              let r : RB := ⟨false, some (k, base), sz, rows.length⟩
              refine ⟨upR R id r, [k], ⟨fun j hj => upR_ne R r (fun e => hj (by rw [e]; exact .head _)), fun k h => h, fun j cc hj => ?_, fun j j' r1 r2 k o o' hj hj' => ?_⟩, fun X hX hk => ?_⟩
              · have : j = id ∧ cc = .arr sz rows := by simpa using hj
                obtain ⟨rfl, rfl⟩ := this
                refine ⟨r, upR_same R _ r, ⟨_, _, rfl⟩, fun X R0 hX => ⟨rfl, rfl, rfl, .inr ⟨k, base, cs, et, rfl, hw, ?_, hrr.mono (Grow.refl w _) (fun k hk hn hx => hn (hX k hx hk))⟩⟩, fun k' o h => ?_⟩
                · have := Nat.mul_le_mul_right sz hc'
                  show base + rows.length * sz ≤ _
                  omega
                · cases h; exact .head _
              · have h1 : j = id := by simpa [keys] using hj
                have h2 : j' = id := by simpa [keys] using hj'
                intros; rw [h1, h2]
              · have := Rep.own (w := w) (X := X) (upR R id r) id r k base 0 rows.length rows.length c cs et (0, 0) (upR_same R id r) rfl rfl rfl (by omega) hc' (by omega) hw (by show base + (0 + c) * sz ≤ _; rw [Nat.zero_add]; exact hs)
                rwa [Nat.zero_mul, Nat.add_zero] at this
      obtain ⟨R1, kx, c1, v1⟩ := head
      obtain ⟨R', ks1, c2, hlen, v2⟩ := adoptL_rep hints (i + 1) R1 hr m2 n2 (fun id hid => by
        rw [c1.old id (fun h => n3 id h id hid rfl)]
        exact hR id (List.mem_append_right _ hid))
      have hstay : ∀ id, id ∉ keys (adoptL hints (i + 1) ps).2 → R' id = R1 id := c2.old
      refine ⟨R', kx ++ ks1, ⟨fun id hid => ?_, fun k hk => ?_, fun id c hid => ?_, fun id id' r r' k o o' hid hid' hr1 hr2 hk1 hk2 => ?_⟩, by simp [hlen], fun X hX hk j q u hq hu => ?_⟩
      · rw [keys_append] at hid
        rw [c2.old id (fun h => hid (List.mem_append_right _ h)), c1.old id (fun h => hid (List.mem_append_left _ h))]
      · rcases List.mem_append.1 hk with h | h
        · exact List.mem_append_left _ (c1.sub k h)
        · exact List.mem_append_right _ (c2.sub k h)
      · rcases List.mem_append.1 hid with h | h
        · obtain ⟨r, r1, r2, r3, r4⟩ := c1.new id c h
          refine ⟨r, ?_, r2, r3, fun k o hk => List.mem_append_left _ (r4 k o hk)⟩
          rw [hstay id (fun h' => n3 id (keys_mem.2 ⟨c, h⟩) id h' rfl)]; exact r1
        · obtain ⟨r, r1, r2, r3, r4⟩ := c2.new id c h
          exact ⟨r, r1, r2, r3, fun k o hk => List.mem_append_right _ (r4 k o hk)⟩
      · rw [keys_append] at hid hid'
        have blkOf : ∀ {id r k o}, id ∈ keys (adopt hints i p).2 → R' id = some r → r.blk = some (k, o) → R1 id = some r ∧ k ∈ kx := by
          intro id r k o h1 h2 h3
          have e := hstay id (fun h' => n3 id h1 id h' rfl)
          rw [e] at h2
          obtain ⟨c, hc⟩ := keys_mem.1 h1
          obtain ⟨r0, q1, _, _, q4⟩ := c1.new id c hc
          rw [h2] at q1; cases q1
          exact ⟨h2, q4 k o h3⟩
        have blkOf2 : ∀ {id r k o}, id ∈ keys (adoptL hints (i + 1) ps).2 → R' id = some r → r.blk = some (k, o) → k ∈ ks1 := by
          intro id r k o h1 h2 h3
          obtain ⟨c, hc⟩ := keys_mem.1 h1
          obtain ⟨r0, q1, _, _, q4⟩ := c2.new id c hc
          rw [h2] at q1; cases q1
          exact q4 k o h3
        rcases List.mem_append.1 hid with h | h <;> rcases List.mem_append.1 hid' with h' | h'
        · exact c1.inj id id' r r' k o o' h h' (blkOf h hr1 hk1).1 (blkOf h' hr2 hk2).1 hk1 hk2
        · exact (m3 k (c1.sub k (blkOf h hr1 hk1).2) k (c2.sub k (blkOf2 h' hr2 hk2)) rfl).elim
        · exact (m3 k (c1.sub k (blkOf h' hr2 hk2).2) k (c2.sub k (blkOf2 h hr1 hk1)) rfl).elim
        · exact c2.inj id id' r r' k o o' h h' hr1 hr2 hk1 hk2
      · cases j with
        | zero =>
          simp at hq hu
          subst hq; subst hu
          have hv := v1 X hX (fun k hk1 hk2 => hk k (List.mem_append_left _ hk1) (fun h => by
            rcases List.mem_append.1 h with h | h
            · exact hk2 h
            · exact m3 k hk1 k (c2.sub k h) rfl))
          refine hv.mono (Grow.refl w _) (fun _ _ h => h) (fun id r hr => ⟨r, ?_, .inl rfl⟩)
          by_cases hid : id ∈ keys (adoptL hints (i + 1) ps).2
          · have : R1 id = none := by
              rw [c1.old id (fun h => n3 id h id hid rfl)]
              exact hR id (List.mem_append_right _ hid)
            rw [this] at hr; cases hr
          · rw [hstay id hid]; exact hr
        | succ j =>
          simp at hq hu
          exact v2 X hX (fun k hk1 hk2 => hk k (List.mem_append_right _ hk1) (fun h => by
            rcases List.mem_append.1 h with h | h
            · exact m3 k (c1.sub k h) k hk1 rfl
            · exact hk2 h)) j q u hq hu
end
end Go.Ev
namespace Go.Ev
open Go
set_option linter.unusedSectionVars false
set_option linter.unusedSimpArgs false
set_option linter.unusedVariables false
variable [Frame]
section
variable {P : Program} {w w' : World} {R : Refs} {H : Heap}
theorem back_core (hH : HRel w R H) {gone ks : List Nat} (hK : KsOf R gone ks) (hgone : ∀ i ∈ gone, ∃ sz rows, hget H i = some (.arr sz rows)) (hG : Grow w (fun k => k ∈ ks) w')
    {fr u : List (Nat × Blk)} (hfr : ∀ p ∈ fr, p.1 ∉ gone ∧ ∃ sz rows, p.2 = .froz sz rows ∧ hget H p.1 = some (.arr sz rows)) (hu : ∀ j ∈ keys u, hget H j = none)
    {Z : Nat → Prop} {R' : Refs} {ks' ks1 : List Nat} (hC : Came w' Z u R R' ks' ks1) (hks : ∀ k ∈ ks', Z k ∧ (k ∈ ks ∨ w.heap.size ≤ k)) (hlt : ∀ k, Z k → k < w'.heap.size) (hF : ∀ k, Frame.F k → Z k)
    (hX : ∀ id b r k o, hget H id = some b → liveB b = true → id ∉ gone → (∀ p ∈ fr, p.1 ≠ id) → R id = some r → r.blk = some (k, o) → Z k)
    {pv : PV} {v : Value} {rd : List Nat} (hv : ∀ X : Nat → Prop, (∀ k, X k → k < w'.heap.size → Z k) → (∀ k ∈ ks', k ∉ ks1 → ¬ X k) → Rep w' X R' pv v) :
    Post w R H ⟨pv, deads gone ++ fr ++ u, rd⟩ v w' R' := by
  have hl : ∀ j, hget (hsets (deads gone ++ fr ++ u) H) j = match lastOf u j with | some c => some c | none => match lastOf fr j with | some c => some c | none => match lastOf (deads gone) j with | some c => some c | none => hget H j := by
    intro j
    rw [hget_last, lastOf_append, lastOf_append]
    cases lastOf u j with
    | some c => rfl
    | none => cases lastOf fr j with
      | some c => rfl
      | none => rfl
  have class_ : ∀ j b, hget (hsets (deads gone ++ fr ++ u) H) j = some b → ((j, b) ∈ u) ∨ (j ∉ keys u ∧ ((j, b) ∈ fr ∨ (j ∈ gone ∧ b = .dead) ∨ (j ∉ gone ∧ (∀ p ∈ fr, p.1 ≠ j) ∧ hget H j = some b))) := by
    intro j b hj
    rw [hl j] at hj
    split at hj
    · rename_i c hc; cases hj; exact .inl (lastOf_mem hc)
    · rename_i h1
      have hk : j ∉ keys u := fun h => by obtain ⟨c, hc⟩ := keys_mem.1 h; exact lastOf_none h1 _ hc rfl
      split at hj
      · rename_i c hc; cases hj; exact .inr ⟨hk, .inl (lastOf_mem hc)⟩
      · rename_i h2
        split at hj
        · rename_i c hc; cases hj
          obtain ⟨d1, d2⟩ := deads_mem (lastOf_mem hc)
          exact .inr ⟨hk, .inr (.inl ⟨d1, d2⟩)⟩
        · rename_i h3
          exact .inr ⟨hk, .inr (.inr ⟨deads_none h3, lastOf_none h2, hj⟩)⟩
  have hgdead : ∀ i ∈ gone, ∃ b, hget H i = some b ∧ deadB b = false ∧ liveB b = true := fun i hi => by
    obtain ⟨sz, rows, h⟩ := hgone i hi; exact ⟨_, h, rfl, rfl⟩
  have ks_own : ∀ k ∈ ks, Own H R k := fun k hk => by
    obtain ⟨i, hi, r, o, h1, h2⟩ := hK.mem k hk
    obtain ⟨b, h3, _, h4⟩ := hgdead i hi
    exact ⟨i, b, r, o, h3, h4, h1, h2⟩
  have ks_F : ∀ k ∈ ks, ¬ Frame.F k := fun k hk => by
    obtain ⟨i, hi, r, o, h1, h2⟩ := hK.mem k hk
    obtain ⟨b, h3, h4, _⟩ := hgdead i hi
    exact hH.off i b r k o h3 h4 h1 h2
  have ks_id : ∀ id b r k o, hget H id = some b → deadB b = false → id ∉ gone → R id = some r → r.blk = some (k, o) → k ∉ ks := fun id b r k o h1 h2 h3 h4 h5 hk => by
    obtain ⟨i, hi, r', o', q1, q2⟩ := hK.mem k hk
    obtain ⟨b', q3, q4, _⟩ := hgdead i hi
    have := hH.inj id i b b' r r' k o o' h1 q3 h2 q4 h4 q1 h5 q2
    subst this; exact h3 hi
  have hold : ∀ id, id ∉ keys u → R' id = R id := hC.old
  have hRE : RExt R R' := fun id r hr => by
    refine ⟨r, ?_, .inl rfl⟩
    by_cases hid : id ∈ keys u
    · rw [hH.dom id (hu id hid)] at hr; cases hr
    · rw [hold id hid]; exact hr
  have hGO : Grow w (Own H R) w' := hG.mono ks_own
  have oldblk : ∀ j b r k o, hget (hsets (deads gone ++ fr ++ u) H) j = some b → deadB b = false → (j, b) ∉ u → R' j = some r → r.blk = some (k, o) →
      ∃ b0, hget H j = some b0 ∧ deadB b0 = false ∧ j ∉ gone ∧ R j = some r ∧ k ∉ ks ∧ k < w.heap.size ∧ (liveB b = true → b0 = b ∧ ∀ p ∈ fr, p.1 ≠ j) := by
    intro j b r k o hj hd hnu hr hk
    rcases class_ j b hj with h | ⟨hku, h | ⟨_, rfl⟩ | ⟨h1, h2, h3⟩⟩
    · exact (hnu h).elim
    · obtain ⟨hng, sz, rows, e1, e2⟩ := hfr _ h
      simp only at e1 e2 hng
      subst e1
      rw [hold j hku] at hr
      exact ⟨_, e2, rfl, hng, hr, ks_id j _ r k o e2 rfl hng hr hk, hH.lt e2 rfl hr hk, fun h => by cases h⟩
    · cases hd
    · rw [hold j hku] at hr
      exact ⟨_, h3, hd, h1, hr, ks_id j _ r k o h3 hd h1 hr hk, hH.lt h3 hd hr hk, fun _ => ⟨rfl, h2⟩⟩
  have newblk : ∀ j b r k o, (j, b) ∈ u → R' j = some r → r.blk = some (k, o) → k ∈ ks1 := by
    intro j b r k o hj hr hk
    obtain ⟨r0, q1, _, _, q4⟩ := hC.new j b hj
    rw [hr] at q1; cases q1
    exact q4 k o hk
  have hXZ : ∀ k, Xof (hsets (deads gone ++ fr ++ u) H) R' k → k < w'.heap.size → Z k := by
    rintro k (hk | ⟨j, b, r, o, hj, hl', hr, hk⟩) _
    · exact hF k hk
    · by_cases hmu : (j, b) ∈ u
      · exact (hks k (hC.sub k (newblk j b r k o hmu hr hk))).1
      · obtain ⟨b0, q1, q2, q3, q4, _, _, q7⟩ := oldblk j b r k o hj (live_dead hl') hmu hr hk
        obtain ⟨rfl, q8⟩ := q7 hl'
        exact hX j b0 r k o q1 hl' q3 q8 q4 hk
  have hXks : ∀ k ∈ ks', k ∉ ks1 → ¬ Xof (hsets (deads gone ++ fr ++ u) H) R' k := by
    rintro k hk hk1 (hf | ⟨j, b, r, o, hj, hl', hr, hk2⟩)
    · rcases (hks k hk).2 with h | h
      · exact ks_F k h hf
      · have := hH.flt k hf; omega
    · by_cases hmu : (j, b) ∈ u
      · exact hk1 (newblk j b r k o hmu hr hk2)
      · obtain ⟨b0, q1, q2, q3, q4, q5, q6, _⟩ := oldblk j b r k o hj (live_dead hl') hmu hr hk2
        rcases (hks k hk).2 with h | h
        · exact q5 h
        · omega
  have hout : ∀ k, k < w.heap.size → ¬ Xof H R k → ¬ Xof (hsets (deads gone ++ fr ++ u) H) R' k := by
    rintro k hk hn (hf | ⟨j, b, r, o, hj, hl', hr, hk2⟩)
    · exact hn (.inl hf)
    · by_cases hmu : (j, b) ∈ u
      · rcases (hks k (hC.sub k (newblk j b r k o hmu hr hk2))).2 with h | h
        · exact hn (.inr (ks_own k h))
        · omega
      · obtain ⟨b0, q1, q2, q3, q4, _, _, q7⟩ := oldblk j b r k o hj (live_dead hl') hmu hr hk2
        obtain ⟨rfl, _⟩ := q7 hl'
        exact hn (.inr ⟨j, b0, r, o, q1, hl', q4, hk2⟩)
  refine ⟨?_, hRE, hGO, hout, hv _ hXZ hXks⟩
  refine hH.change hGO.weak hRE hout ?_ ?_ ?_ ?_
  · intro j hj
    rw [hl j] at hj
    split at hj <;> first | (cases hj; done) | skip
    rename_i h1
    have hk : j ∉ keys u := fun h => by obtain ⟨c, hc⟩ := keys_mem.1 h; exact lastOf_none h1 _ hc rfl
    split at hj <;> first | (cases hj; done) | skip
    split at hj <;> first | (cases hj; done) | skip
    rw [hold j hk]; exact hH.dom j hj
  · intro j b hj
    rcases class_ j b hj with h | ⟨hku, h | ⟨hg, rfl⟩ | ⟨h1, h2, h3⟩⟩
    · obtain ⟨r, q1, _, q3, _⟩ := hC.new j b h
      exact .inr ⟨r, q1, q3 _ _ hXZ⟩
    · obtain ⟨hng, sz, rows, e1, e2⟩ := hfr _ h
      simp only at e1 e2 hng
      subst e1
      obtain ⟨r, q1, q2⟩ := hH.has j _ e2
      refine .inr ⟨r, by rw [hold j hku]; exact q1, ?_⟩
      have : BRel w (Xof H R) R r (.froz sz rows) := q2
      exact this.mono hGO.weak hout hRE fun k o hk => hG.same k (hH.lt e2 rfl q1 hk) (ks_id j _ r k o e2 rfl hng q1 hk)
    · obtain ⟨b0, q1, _, _⟩ := hgdead j hg
      obtain ⟨r, q2, _⟩ := hH.has j b0 q1
      exact .inr ⟨r, by rw [hold j hku]; exact q2, trivial⟩
    · refine .inl ⟨h3, hold j hku, ?_⟩
      cases hd : deadB b with
      | true => exact .inl rfl
      | false => exact .inr fun r k o hr hk => hG.same k (hH.lt h3 hd hr hk) (ks_id j b r k o h3 hd h1 hr hk)
  · intro j j' b b' r r' k o o' hj hj' hd hd' hr hr' hk hk'
    by_cases hm : (j, b) ∈ u <;> by_cases hm' : (j', b') ∈ u
    · exact hC.inj j j' r r' k o o' (keys_mem.2 ⟨b, hm⟩) (keys_mem.2 ⟨b', hm'⟩) hr hr' hk hk'
    · obtain ⟨_, _, _, _, _, q5, q6, _⟩ := oldblk j' b' r' k o' hj' hd' hm' hr' hk'
      rcases (hks k (hC.sub k (newblk j b r k o hm hr hk))).2 with h | h
      · exact (q5 h).elim
      · omega
    · obtain ⟨_, _, _, _, _, q5, q6, _⟩ := oldblk j b r k o hj hd hm hr hk
      rcases (hks k (hC.sub k (newblk j' b' r' k o' hm' hr' hk'))).2 with h | h
      · exact (q5 h).elim
      · omega
    · obtain ⟨b0, q1, q2, _, q4, _⟩ := oldblk j b r k o hj hd hm hr hk
      obtain ⟨b0', q1', q2', _, q4', _⟩ := oldblk j' b' r' k o' hj' hd' hm' hr' hk'
      exact hH.inj j j' b0 b0' r r' k o o' q1 q1' q2 q2' q4 q4' hk hk'
  · intro j b r k o hj hd hr hk hf
    by_cases hm : (j, b) ∈ u
    · rcases (hks k (hC.sub k (newblk j b r k o hm hr hk))).2 with h | h
      · exact ks_F k h hf
      · have := hH.flt k hf; omega
    · obtain ⟨b0, q1, q2, _, q4, _⟩ := oldblk j b r k o hj hd hm hr hk
      exact hH.off j b0 r k o q1 q2 q4 hk hf
end
end Go.Ev
namespace Go.Ev
open Go
set_option linter.unusedSectionVars false
set_option linter.unusedSimpArgs false
set_option linter.unusedVariables false
variable [Frame]
section
variable {w : World}
theorem flat1_rep {Z Z' : Nat → Prop} {p : PV} {v : Value} (hf : flat1 p = true) (h : Rep w Z noRefs p v) : Rep w Z' noRefs p v := by
  cases h with
  | any _ v => exact .any _ v
  | undef => exact .undef _
  | bool _ b => exact .bool _ b
  | int _ k n => exact .int _ k n
  | str _ s => exact .str _ s
  | nilp => exact .nilp _
  | nilf => exact .nilf _
  | nili => exact .nili _
  | nul _ ad => exact .nul _ ad
  | nils _ c => exact .nils _ c
  | emp _ a c => exact .emp _ a c
  | ro0 _ ad c => exact .ro0 _ ad c
  | ro _ k o sz rows c vs hk hs hl hz hc hr =>
    cases rows with
    | nil => exact .ro0 _ _ _
    | cons r rs => cases hf
  | rptr => cases hf
  | ptr => cases hf
  | eptr => cases hf
  | eptrS => cases hf
  | own => cases hf
  | ownZ => cases hf
  | ownS => cases hf
  | func => cases hf
  | iface => cases hf
  | agg => cases hf
  | tuple => cases hf
theorem flatL_get : ∀ {l : List PV}, flatL l = true → ∀ (i : Nat) p, l[i]? = some p → flat1 p = true
  | [], _, i, p, h => by simp at h
  | q :: r, h, i, p, hp => by
    simp only [flatL] at h
    split at h <;> first | (cases h; done) | skip
    rename_i hq
    cases i with
    | zero => simp at hp; subst hp; exact hq
    | succ i => simp at hp; exact flatL_get h i p hp
theorem flat2_cell {Z Z' : Nat → Prop} {p : PV} {v : Value} {ks : List Nat} (hf : flat2 p = true) (h : CellR w Z p v ks) : CellR w Z' p v ks := by
  cases h with
  | plain _ _ hn hr =>
    refine .plain _ _ hn ?_
    cases p <;> first | exact flat1_rep hf hr | skip
    rename_i cs
    cases hr with
    | agg _ _ arr hl h1 h => exact .agg _ _ arr hl h1 fun i pv u hp hu => flat1_rep (flatL_get hf i pv hp) (h i pv u hp hu)
  | fresh sz rows _ _ h =>
    refine .fresh _ _ _ _ ?_
    cases rows with
    | cons => cases hf
    | nil =>
      cases h with
      | none ad h => exact .none ad h
      | some k base c cs et hw hc hs hr => exact .some k base c cs et hw hc hs ⟨fun i row hi => by simp at hi, fun i row j pv hi => by simp at hi⟩
theorem flat2L_list {Z Z' : Nat → Prop} : ∀ {ps : List PV} {vs : List Value} {ks : List Nat}, flat2L ps = true → ListR w Z ps vs ks → ListR w Z' ps vs ks
  | [], _, _, _, h => by cases h; exact .nil
  | p :: ps, _, _, hf, h => by
    simp only [flat2L] at hf
    split at hf <;> first | (cases hf; done) | skip
    rename_i hp
    cases h with
    | cons _ v k1 _ vs k2 h hr => exact .cons p v k1 ps vs k2 (flat2_cell hp h) (flat2L_list hf hr)
theorem flatv_ret {Z Z' : Nat → Prop} {p : PV} {v : Value} {ks : List Nat} (hf : flatv p = true) (h : RetR w Z p v ks) : RetR w Z' p v ks := by
  cases h with
  | one _ _ _ hn h =>
    refine .one _ _ _ hn (flat2_cell ?_ h)
    cases p <;> first | exact hf | exact absurd rfl (hn _)
  | tuple ps arr _ h => exact .tuple ps arr _ (flat2L_list hf h)
end
section
variable {P : Program} {w w' : World} {R : Refs} {H : Heap}
theorem adoptR_rep (hints : List (Nat × Nat)) {Z : Nat → Prop} {r : PV} {v : Value} {ks : List Nat} (h : RetR w Z r v ks) (hks : ks.Nodup) (hn : (keys (adoptR hints r).2).Nodup) (R : Refs)
    (hR : ∀ id ∈ keys (adoptR hints r).2, R id = none) : ∃ R' ks1, Came w Z (adoptR hints r).2 R R' ks ks1 ∧
      ∀ X : Nat → Prop, (∀ k, X k → k < w.heap.size → Z k) → (∀ k ∈ ks, k ∉ ks1 → ¬ X k) → Rep w X R' (adoptR hints r).1 v := by
  cases h with
  | one _ _ _ hnt h =>
    have e : adoptR hints r = adopt hints 0 r := by cases r <;> first | rfl | exact absurd rfl (hnt _)
    have hl : ListR w Z [r] [v] (ks ++ []) := .cons r v ks [] [] [] h .nil
    rw [List.append_nil] at hl
    have e2 : (adoptL hints 0 [r]).2 = (adopt hints 0 r).2 := by simp [adoptL]
    rw [e] at hn hR ⊢
    obtain ⟨R', ks1, c1, _, c3⟩ := adoptL_rep hints 0 R hl hks (by rw [e2]; exact hn) (by rw [e2]; exact hR)
    rw [e2] at c1
    exact ⟨R', ks1, c1, fun X h1 h2 => c3 X h1 h2 0 _ v (by simp [adoptL]) rfl⟩
  | tuple ps arr _ h =>
    obtain ⟨R', ks1, c1, c2, c3⟩ := adoptL_rep hints 0 R h hks hn hR
    refine ⟨R', ks1, c1, fun X h1 h2 => .tuple _ _ arr (by simpa using c2.symm) fun i pv u hp hu => c3 X h1 h2 i pv u hp (by simpa using hu)⟩
theorem back_ok (hH : HRel w R H) {A : Args} {hints : List (Nat × Nat)} {base : Nat} {r : PV} {e : Eff} {ks ks' : List Nat} {Z : Nat → Prop} {v : Value} (hlent : A.lent = []) (hb : back H A hints base r [] = some e)
    (hK : KsOf R A.gone ks) (hgone : ∀ i ∈ A.gone, ∃ sz rows, hget H i = some (.arr sz rows)) (hG : Grow w (fun k => k ∈ ks) w') (hZ : ∀ k, Zof H R A.seen k → k ∉ ks → Z k)
    (hks : ∀ k ∈ ks', Z k ∧ (k ∈ ks ∨ w.heap.size ≤ k)) (hlt : ∀ k, Z k → k < w'.heap.size) (hnd : ks'.Nodup) (hret : RetR w' Z r v ks') : ∃ R', Post w R H e v w' R' := by
  unfold back at hb
  split at hb <;> first | (cases hb; done) | skip
  rename_i c1 c2 c3 c4 c5
  rw [hlent] at c5 c3
  split at hb <;> first | (cases hb; done) | skip
  rename_i fr hfr
  simp only [hlent, takeL, List.filter_nil, List.append_nil] at hb
  split at hb <;> cases hb
  rename_i hnew
  have hall := hasAll_spec c5
  have hseen : ∀ i ∈ A.seen, ∃ b, hget H i = some b ∧ deadB b = false := fun i hi => hall i (by simp [hi])
  obtain ⟨n1, n2⟩ := newIds_spec hnew
  have ks_id : ∀ id b r k o, hget H id = some b → deadB b = false → id ∉ A.gone → R id = some r → r.blk = some (k, o) → k ∉ ks := fun id b r k o h1 h2 h3 h4 h5 hk => by
    obtain ⟨i, hi, r', o', q1, q2⟩ := hK.mem k hk
    obtain ⟨sz, rows, q3⟩ := hgone i hi
    have := hH.inj id i b _ r r' k o o' h1 q3 h2 rfl h4 q1 h5 q2
    subst this; exact h3 hi
  have ks_F : ∀ k ∈ ks, ¬ Frame.F k := fun k hk => by
    obtain ⟨i, hi, r, o, h1, h2⟩ := hK.mem k hk
    obtain ⟨sz, rows, h3⟩ := hgone i hi
    exact hH.off i _ r k o h3 rfl h1 h2
  have shown_F : ∀ k, ShownK R A.seen k → ¬ Frame.F k := by
    rintro k ⟨i, hi, r, o, h1, h2⟩
    obtain ⟨b, h3, h4⟩ := hseen i hi
    exact hH.off i b r k o h3 h4 h1 h2
  have hF : ∀ k, Frame.F k → Z k := fun k hk => hZ k ⟨.inl hk, fun h => shown_F k h hk⟩ fun h => ks_F k h hk
  have hRn : ∀ id ∈ keys (adoptR hints r).2, R id = none := fun id hid => hH.dom id (n1 id hid).1
  have flatcase : flatv r = true → fr = [] → ∃ R', Post w R H ⟨(adoptR hints r).1, deads A.gone ++ fr ++ (adoptR hints r).2, A.gone ++ A.seen⟩ v w' R' := by
    rintro hfl rfl
    let Z2 : Nat → Prop := fun k => Z k ∨ ShownK R A.seen k
    obtain ⟨R', ks1, d1, d2⟩ := adoptR_rep hints (flatv_ret (Z' := Z2) hfl hret) hnd n2 R hRn
    refine ⟨R', back_core hH hK hgone hG (fun p hp => (by cases hp)) (fun j hj => (n1 j hj).1) d1 (fun k hk => ⟨.inl (hks k hk).1, (hks k hk).2⟩) ?_ (fun k hk => .inl (hF k hk)) ?_ d2⟩
    · rintro k (hk | ⟨i, hi, q, o, q1, q2⟩)
      · exact hlt k hk
      · obtain ⟨b, h3, h4⟩ := hseen i hi
        exact Nat.lt_of_lt_of_le (hH.lt h3 h4 q1 q2) hG.size
    · intro id b q k o h1 h2 h3 _ h5 h6
      by_cases hs : ShownK R A.seen k
      · exact .inr hs
      · exact .inl (hZ k ⟨.inr ⟨id, b, q, o, h1, h2, h5, h6⟩, hs⟩ (ks_id id b q k o h1 (live_dead h2) h3 h5 h6))
  unfold frz at hfr
  split at hfr
  · rename_i hfl _
    cases hfr
    obtain ⟨R', hp⟩ := flatcase hfl rfl
    exact ⟨R', by simpa using hp⟩
  · obtain ⟨R', ks1, d1, d2⟩ := adoptR_rep hints hret hnd n2 R hRn
    refine ⟨R', back_core hH hK hgone hG (fun p hp => ?_) (fun j hj => (n1 j hj).1) d1 hks hlt hF ?_ d2⟩
    · exact ⟨fun hg => apartN_spec c1 p.1 hg (frees_in hfr p hp), frees_keys hfr p hp⟩
    · intro id b q k o h1 h2 h3 h4 h5 h6
      refine hZ k ⟨.inr ⟨id, b, q, o, h1, h2, h5, h6⟩, ?_⟩ (ks_id id b q k o h1 (live_dead h2) h3 h5 h6)
      rintro ⟨i, hi, q', o', q1, q2⟩
      obtain ⟨b', h7, h8⟩ := hseen i hi
      have := hH.inj id i b b' q q' k o o' h1 h7 (live_dead h2) h8 h5 q1 h6 q2
      subst this
      obtain ⟨sz, rows, h9 | h9⟩ := frees_all hfr id hi
      · exact h4 _ h9.2 rfl
      · rw [h1] at h9; cases h9; cases h2
theorem run_callFunc {f : FuncId} (h : ownFn P f = true) (args : Array Value) (w : World) : (callFunc f args).run P w = .ok (.enter f args) w := by
  unfold ownFn at h
  split at h <;> first | (cases h; done) | skip
  rename_i fn hf
  simp only [Bool.and_eq_true, Bool.not_eq_true'] at h
  obtain ⟨h1, h2⟩ := h
  have h3 : fn.body.isNone = false := by cases hb : fn.body <;> simp_all
  have h4 : ¬ fn.name = "runtime.NumGoroutine" := by simpa using h2
  have h5 : fn.body ≠ none := by intro e; rw [e] at h3; cases h3
  simp [callFunc, hf, h4, h5]
variable {cx : Cx} {gs : List Nat} {env : Env} {a : Act}
def mArgs (gs : List Nat) : List Operand → List (Mode × Opd) → Bool
  | [], [] => true
  | x :: r, (_, y) :: s => mOpd gs x y && mArgs gs r s
  | _, _ => false
theorem mArgs_get : ∀ {xs : List Operand} {as : List (Mode × Opd)}, mArgs gs xs as = true → xs.length = as.length ∧ ∀ (i : Nat) (x : Operand) (m : Mode) (y : Opd), xs[i]? = some x → as[i]? = some (m, y) → mOpd gs x y = true
  | [], [], _ => ⟨rfl, fun i x m y h => by simp at h⟩
  | [], _ :: _, h => by simp [mArgs] at h
  | _ :: _, [], h => by simp [mArgs] at h
  | x :: xs, (m, y) :: as, h => by
    simp only [mArgs, Bool.and_eq_true] at h
    obtain ⟨h1, h2⟩ := mArgs_get h.2
    refine ⟨by simp [h1], fun i x' m' y' hx hy => ?_⟩
    cases i with
    | zero => simp at hx hy; obtain ⟨rfl, rfl⟩ := hy; subst hx; exact h.1
    | succ i => simp at hx hy; exact h2 i x' m' y' hx hy
theorem ListR.append {Z : Nat → Prop} {ps qs : List PV} {vs us : List Value} {k1 k2 : List Nat} (h : ListR w Z ps vs k1) (h' : ListR w Z qs us k2) : ListR w Z (ps ++ qs) (vs ++ us) (k1 ++ k2) := by
  induction h with
  | nil => exact h'
  | cons p v k1 ps vs k2' h hr ih => rw [List.append_assoc]; exact .cons p v k1 _ _ _ h ih
theorem enter_ok (hH : HRel w R H) (hG : GlobOK cx gs w (Xof H R)) {o : Oper} {f : FuncId} {A : Args} {hints : List (Nat × Nat)} {base : Nat} {r : PV} {vs : Array Value} {e : Eff} {ks : List Nat} {args : List PV}
    (hlent : A.lent = []) (hb : back H A hints base r [] = some e) (hr : cx.call f args = some (r, [])) (hf : FnOK P cx.glob gs cx.call f) (hrun : (execOp a.eval o).run P w = .ok (.enter f vs) w)
    (hL : ListR w (Zof H R A.seen) args vs.toList ks) (hK : KsOf R A.gone ks) (hgone : ∀ i ∈ A.gone, ∃ sz rows, hget H i = some (.arr sz rows)) : OpOK P o a w R H e := by
  intro next Q hn
  rw [hrun]
  rw [Oper.upon_enter]
  have hb' := hb
  unfold back at hb'
  split at hb' <;> first | (cases hb'; done) | skip
  rename_i c1 c2 c3 c4 c5
  rw [hlent, List.append_nil] at c5 c3
  have hall := hasAll_spec c5
  have hkn : ks.Nodup := hK.nodup hH (nodupN_spec c3) fun i hi => hall i (List.mem_append_left _ hi)
  have hkz : ∀ k ∈ ks, Zof H R A.seen k := fun k hk => by
    obtain ⟨i, hi, q, o', h1, h2⟩ := hK.mem k hk
    obtain ⟨sz, rows, h3⟩ := hgone i hi
    refine ⟨.inr ⟨i, _, q, o', h3, rfl, h1, h2⟩, ?_⟩
    rintro ⟨j, hj, q', o2, h4, h5⟩
    obtain ⟨b, h6, h7⟩ := hall j (List.mem_append_right _ hj)
    have := hH.inj i j _ b q q' k o' o2 h3 h6 rfl h7 h1 h4 h2 h5
    subst this
    exact apartN_spec c1 i hi hj
  have := (hf args r hr).2 (Zof H R A.seen) w vs ks (fun k hk => hH.X_lt hk.1) hkz hkn (fun g hg => (hG g hg).mono (Grow.refl w _) (fun k _ hn hz => hn hz.1) (RExt.no _)) hL
  refine this.mono ?_
  rintro e' w' ⟨v, rfl, g1, Z', ks', z1, z2, z3, z4, z5⟩
  obtain ⟨R', hp⟩ := back_ok hH hlent hb hK hgone g1 z1 z2 z3 z4 z5
  exact hn v w' R' hp
theorem ios_nil {A : Args} {hints : List (Nat × Nat)} {base : Nat} {r : PV} {ios : List (List PV)} {e : Eff} (hl : A.lent = []) (h : back H A hints base r ios = some e) : ios = [] := by
  unfold back at h
  split at h <;> first | (cases h; done) | skip
  rename_i c1 c2 c3 c4 c5
  rw [hl] at c4
  cases ios with
  | nil => rfl
  | cons => cases c4
theorem ok_call (hH : HRel w R H) (hE : ERel w R H env a.tmps) (hG : GlobOK cx gs w (Xof H R)) {o : Oper} {c : Call} {f : FuncId} {as : List (Mode × Opd)} {hints : List (Nat × Nat)} {base : Nat} {e : Eff}
    (ho : o.op = .call c) (hc : c.callee = .value (.func f)) (hok : FnOK P cx.glob gs cx.call f) (hm : plainModes as = true) (ha : mArgs gs c.args.toList as = true)
    (he : evOp cx env H (.call f as hints base) = some e) : OpOK P o a w R H e := by
  simp only [evOp] at he
  split at he <;> first | (cases he; done) | skip
  rename_i A hA
  unfold evCall at he
  split at he <;> first | (cases he; done) | skip
  rename_i r ios hr
  obtain ⟨m1, m2⟩ := mArgs_get ha
  obtain ⟨hl, ks, hL, hK, hg⟩ := args_rep hH (vs := (c.args.map a.eval).toList) (seen := A.seen) hm hA (fun _ h => h) (by simp at m1 ⊢; exact m1.symm) (fun i m x v hx hv => by
    simp only [Array.toList_map, List.getElem?_map, Option.map_eq_some_iff] at hv
    obtain ⟨y, hy, rfl⟩ := hv
    exact opd_rep hE hG (m2 i y m x hy hx))
  have hi := ios_nil hl he
  subst hi
  refine enter_ok hH hG hl he hr hok (vs := c.args.map a.eval) ?_ (by simpa using hL) hK hg
  have : (callFunc f (c.args.map a.eval)).run P w = _ := run_callFunc (hok _ _ hr).1 _ w
  simp [execOp, ho, resolve, hc, Deferred.ofValue, invoke, Act.eval, this]
theorem Rep.plain {X : Nat → Prop} {p : PV} {v : Value} (h : Rep w X R p v) : isBorder p = false := by cases h <;> rfl
theorem caps_list {Z : Nat → Prop} : ∀ {ps : List PV} {vs : List Value}, ps.length = vs.length → (∀ (i : Nat) p v, ps[i]? = some p → vs[i]? = some v → Rep w Z noRefs p v) → ListR w Z ps vs []
  | [], [], _, _ => .nil
  | [], _ :: _, h, _ => by simp at h
  | _ :: _, [], h, _ => by simp at h
  | p :: ps, v :: vs, h, hr => by
    have h0 := hr 0 p v rfl rfl
    exact .cons p v [] ps vs [] (.plain _ _ h0.plain h0) (caps_list (by simpa using h) fun i q u hq hu => hr (i + 1) q u (by simpa using hq) (by simpa using hu))
theorem ok_callv (hH : HRel w R H) (hE : ERel w R H env a.tmps) (hG : GlobOK cx gs w (Xof H R)) {o : Oper} {c : Call} {fx : Operand} {fx' : Opd} {as : List (Mode × Opd)} {hints : List (Nat × Nat)} {base : Nat} {e : Eff}
    (ho : o.op = .call c) (hc : c.callee = .value fx) (hfx : mOpd gs fx fx' = true) (hcall : ∀ f, FnOK P cx.glob gs cx.call f) (hm : plainModes as = true) (ha : mArgs gs c.args.toList as = true)
    (he : evOp cx env H (.callv fx' as hints base) = some e) : OpOK P o a w R H e := by
  simp only [evOp] at he
  split at he <;> first | (cases he; done) | skip
  rename_i f cs x A hcl hA
  unfold evCall at he
  split at he <;> first | (cases he; done) | skip
  rename_i r ios hr
  rw [List.nil_append] at hr
  obtain ⟨m1, m2⟩ := mArgs_get ha
  obtain ⟨hl, ks, hL, hK, hg⟩ := args_rep hH (vs := (c.args.map a.eval).toList) (seen := x ++ A.seen) hm hA (fun _ h => List.mem_append_right _ h) (by simp at m1 ⊢; exact m1.symm) (fun i m x v hx hv => by
    simp only [Array.toList_map, List.getElem?_map, Option.map_eq_some_iff] at hv
    obtain ⟨y, hy, rfl⟩ := hv
    exact opd_rep hE hG (m2 i y m x hy hx))
  have hi := ios_nil (A := { A with seen := x ++ A.seen }) hl he
  subst hi
  have hv := clo2_rep hH hcl ((shown_Z (x ++ A.seen)).mono fun i hi => List.mem_append_left _ hi) (opd_rep hE hG hfx)
  generalize hu : a.eval fx = u at hv
  cases hv with
  | func _ _ _ arr hl2 h1 h2 =>
    have hC : ListR w (Zof H R (x ++ A.seen)) cs arr.toList [] := caps_list (by simp [hl2]) fun i p v hp hv => h2 i p v hp (by simpa using hv)
    have hLL := hL.append hC
    rw [List.append_nil] at hLL
    refine enter_ok hH hG (A := { A with seen := x ++ A.seen }) hl he hr (hcall f) (vs := c.args.map a.eval ++ arr) ?_ (by simpa using hLL) hK hg
    have := run_callFunc (hcall f _ _ hr).1 (c.args.map a.eval ++ arr) w
    simp [execOp, ho, resolve, hc, hu, Deferred.ofValue, invoke, this]
end
end Go.Ev
namespace Go.Ev
open Go
set_option linter.unusedSectionVars false
set_option linter.unusedSimpArgs false
set_option linter.unusedVariables false
variable [Frame]
section
variable {P : Program} {cx : Cx} {gs : List Nat} {w : World} {R : Refs} {H : Heap} {env : Env} {a : Act}
theorem bytes_loop {P : Program} {w : World} {f : Value → ByteArray → Sem (ForInStep ByteArray)} (hf : ∀ n s, f (.int .u8 n) s = pure (ForInStep.yield (s.push (UInt8.ofNat n.toNat)))) : ∀ (l : List Int) (s : ByteArray),
   (forIn (m := Sem) (l.map fun n => Value.int .u8 n) s f).run P w = .ok ⟨s.data ++ (l.map fun n => UInt8.ofNat n.toNat).toArray⟩ w
  | [], s => by simp
  | n :: l, s => by
    rw [List.map_cons, List.forIn_cons, hf]
    simp only [pure_bind]
    rw [bytes_loop hf l]
    simp [ByteArray.push]
theorem run_bytesToString {ad : Addr} {len c : Nat} {l : List Int} {w : World} (h : (loadCells ad len).run P w = .ok (l.map fun n => Value.int .u8 n).toArray w) :
    (Conv.bytesToString (.slice (some ad) len c)).run P w = .ok (.string ⟨(l.map fun n => UInt8.ofNat n.toNat).toArray⟩) w := by
  simp only [Conv.bytesToString, Sem.run_bind, h, Result.andThen_ok]
  rw [List.forIn_toArray]
  rw [bytes_loop (fun _ _ => rfl) l ByteArray.empty]
  simp
theorem bytesOf_spec : ∀ {rows : List (List PV)} {s : List UInt8}, bytesOf rows = some s → ∃ l : List Int, rows = (l.map fun n => [PV.int .u8 n]) ∧ s = l.map fun n => UInt8.ofNat n.toNat
  | [], s, h => by simp [bytesOf] at h; exact ⟨[], rfl, by simp [h]⟩
  | row :: r, s, h => by
    unfold bytesOf at h
    split at h
    · rename_i e; cases e
    · rename_i q n r' e
      cases e
      cases hb : bytesOf r with
      | none => rw [hb] at h; cases h
      | some t =>
        rw [hb] at h; cases h
        obtain ⟨l, rfl, rfl⟩ := bytesOf_spec hb
        exact ⟨n :: l, rfl, rfl⟩
    · cases h
theorem ones_ok : ∀ l : List Int, szOK 1 (l.map fun n => [PV.int .u8 n]) = true
  | [] => rfl
  | n :: l => by simp [szOK, ones_ok l]
theorem ok_toStr (hH : HRel w R H) (hE : ERel w R H env a.tmps) (hG : GlobOK cx gs w (Xof H R)) {o : Oper} {src dst el : TypeId} {x : Operand} {x' : Opd} {e : Eff}
    (ho : o.op = .convert src dst x) (hs : P.underlying src = some (.slice el)) (hel : P.underlying el = some (.int .u8)) (hd : P.underlying dst = some .string) (hx : mOpd gs x x' = true) (he : evOp cx env H (.toStr x') = some e) : OpOK P o a w R H e := by
  have rx := opd_rep hE hG hx
  simp only [evOp] at he
  generalize hp : opd cx env x' = pv at rx he
  generalize hv : a.eval x = v at rx
  split at he <;> first | (cases he; done) | skip
  rename_i rows ids hq hrows
  split at he <;> cases he
  rename_i s hb
  obtain ⟨l, rfl, rfl⟩ := bytesOf_spec hb
  have hR := rowsIn_rep (P := P) hH hrows (ones_ok l) rx
  obtain ⟨arr, h1, h2, h3⟩ := hR.first (l.map fun n => [PV.int .u8 n]).length (Nat.le_refl _)
  have hlen : ∃ (ad : Option Addr) (c : Nat), v = .slice ad l.length c := by
    have hl := hR.len w
    unfold rowsIn at hrows
    split at hrows
    · have e := (Prod.mk.inj (Option.some.inj hrows)).1
      cases rx with
      | nul _ ad =>
        have : l = [] := by simpa using e.symm
        subst this; exact ⟨ad, 0, rfl⟩
    · have e := (Prod.mk.inj (Option.some.inj hrows)).1
      cases rx with
      | nils _ c =>
        have : l = [] := by simpa using e.symm
        subst this; exact ⟨none, c, rfl⟩
    · have e := (Prod.mk.inj (Option.some.inj hrows)).1
      cases rx with
      | emp _ a c =>
        have : l = [] := by simpa using e.symm
        subst this; exact ⟨some a, c, rfl⟩
    · cases rx with
      | ro0 _ ad c =>
        refine ⟨ad, c, ?_⟩
        simp [Builtin.lenOf] at hl
        rw [hl]
      | ro _ k o sz _ c vs =>
        refine ⟨some ⟨k, o, none⟩, c, ?_⟩
        simp [Builtin.lenOf] at hl
        rw [hl]
    · rename_i id off len cl
      have hvo : validO H id cl = true := by
        unfold validO
        cases hg : hget H id with
        | none => rw [hg] at hrows; cases hrows
        | some b =>
          rw [hg] at hrows
          cases b <;> simp only at hrows <;> first | (cases hrows; done) | skip
          all_goals
            split at hrows <;> first | (cases hrows; done) | skip
            simp only
            assumption
      obtain ⟨r, hr, hcl', hbx, hcase⟩ := own_real hH hvo rx
      rcases hcase with ⟨k, base, c, cs, et, fr, hk, b1, b2, b3, hw, b4, rfl⟩ | ⟨rfl, rfl, ad, rfl⟩
      · refine ⟨some ⟨k, base + off * r.sz, none⟩, c, ?_⟩
        simp [Builtin.lenOf] at hl
        rw [← hl]
      · refine ⟨ad, 0, ?_⟩
        simp [Builtin.lenOf] at hl
        rw [← hl]
    · cases hq
    · cases hrows
  obtain ⟨ad, c, rfl⟩ := hlen
  have harr : arr = (l.map fun n => Value.int .u8 n).toArray := by
    apply Array.ext'
    apply List.ext_getElem?
    intro i
    by_cases hi : i < l.length
    · obtain ⟨u, u1, u2, u3⟩ := h3.2 i [PV.int .u8 l[i]] 0 (.int .u8 l[i]) (by simp [hi]) rfl
      rw [Nat.mul_one, Nat.zero_add, Nat.add_zero] at u1
      cases u3
      simp [u1, hi]
    · have : arr.size = l.length := by simpa using h2
      simp [hi]
      omega
  subst harr
  have hrun : (Conv.bytesToString (.slice ad l.length c)).run P w = .ok (.string ⟨(l.map fun n => UInt8.ofNat n.toNat).toArray⟩) w := by
    cases ad with
    | none =>
      have := h1 w rfl
      cases l with
      | nil => simp [Conv.bytesToString]; rfl
      | cons n l => simp [Builtin.firstCells] at this
    | some ad =>
      have := h1 w rfl
      refine run_bytesToString ?_
      simpa [Builtin.firstCells] using this
  refine OpOK.pure hH (v := .string ⟨(l.map fun n => UInt8.ofNat n.toNat).toArray⟩) ?_ (.str _ _)
  simp [execOp, ho, hv, convert, underlying, hs, hd, hel, hrun]
theorem run_most {P : Program} {w : World} : ∀ (l : List Int) (x : Int), ((l.map fun n => Value.int .i64 n).foldlM (m := Sem) Builtin.max2 (.int .i64 x)).run P w = .ok (.int .i64 (mostOf x l)) w
  | [], x => by simp [mostOf]
  | y :: l, x => by
    rw [List.map_cons, List.foldlM_cons]
    simp only [Builtin.max2, pure_bind, mostOf]
    exact run_most l _
theorem run_least {P : Program} {w : World} : ∀ (l : List Int) (x : Int), ((l.map fun n => Value.int .i64 n).foldlM (m := Sem) Builtin.min2 (.int .i64 x)).run P w = .ok (.int .i64 (leastOf x l)) w
  | [], x => by simp [leastOf]
  | y :: l, x => by
    rw [List.map_cons, List.foldlM_cons]
    simp only [Builtin.min2, pure_bind, leastOf]
    exact run_least l _
def mOpdL (gs : List Nat) : List Operand → List Opd → Bool
  | [], [] => true
  | x :: r, y :: s => mOpd gs x y && mOpdL gs r s
  | _, _ => false
theorem ints_rep (hE : ERel w R H env a.tmps) (hG : GlobOK cx gs w (Xof H R)) : ∀ {xs : List Operand} {ys : List Opd} {l : List Int}, mOpdL gs xs ys = true → intsOf (opds cx env ys) = some l → xs.map a.eval = l.map fun n => Value.int .i64 n
  | [], [], l, _, h => by simp [opds, intsOf] at h; subst h; rfl
  | [], _ :: _, _, h, _ => by simp [mOpdL] at h
  | _ :: _, [], _, h, _ => by simp [mOpdL] at h
  | x :: xs, y :: ys, l, hm, h => by
    simp only [mOpdL, Bool.and_eq_true] at hm
    have rx := opd_rep hE hG hm.1
    simp only [opds] at h
    generalize hp : opd cx env y = p at rx h
    generalize hv : a.eval x = v at rx
    unfold intsOf at h
    split at h
    · rename_i e; cases e
    · rename_i n r e
      cases e
      cases hi : intsOf (opds cx env ys) with
      | none => rw [hi] at h; cases h
      | some t =>
        rw [hi] at h; cases h
        cases rx
        rw [List.map_cons, hv, ints_rep hE hG hm.2 hi]; rfl
    · cases h
theorem ok_isnl (hH : HRel w R H) (hE : ERel w R H env a.tmps) (hG : GlobOK cx gs w (Xof H R)) {o : Oper} {neg : Bool} {t u el : TypeId} {x : Operand} {x' : Opd} {e : Eff}
    (ho : o.op = .binOp (if neg then .neq else .eql) t x (.const (.slice none 0 0)) u) (ht : P.underlying t = some (.slice el)) (hx : mOpd gs x x' = true) (he : evOp cx env H (.isnl neg x') = some e) : OpOK P o a w R H e := by
  have rx := opd_rep hE hG hx
  simp only [evOp] at he
  generalize hp : opd cx env x' = pv at rx he
  generalize hv : a.eval x = v at rx
  have key : ∀ (ad : Option Addr) (n c : Nat), v = .slice ad n c → ∀ rd, e = ⟨.bool (flip neg ad.isNone), [], rd⟩ → OpOK P o a w R H e := by
    intro ad n c hv2 rd h1
    subst h1; subst hv2
    refine OpOK.pure hH (v := .bool (flip neg ad.isNone)) ?_ (.bool R _)
    have hg : ∀ op, (eqGuard op t x (.const (.slice none 0 0)) (.slice ad n c) (.slice none 0 0)).run P w = .ok () w := fun op => eqGuard_plain (by simp) (by simp)
    have heq0 : ∀ w : World, (binOp .eql t (.slice ad n c) (.slice none 0 0)).run P w = .ok (.bool ad.isNone) w := fun w => Lib.run_eql_slice_nil w t el ad n c 0 0 ht
    have hne : ∀ w : World, (binOp .neq t (.slice ad n c) (.slice none 0 0)).run P w = .ok (.bool (!ad.isNone)) w := fun w => by
      simp only [binOp]
      simp [Op.equal, Op.maxDepth, Lib.run_equalIn_slice_nil w 9999 t el ad n c 0 0 ht]
    cases neg
    · simp only [Bool.false_eq_true, if_false] at ho
      simp [execOp, ho, hv, show a.eval (.const (.slice none 0 0)) = .slice none 0 0 from rfl, hg, heq0, flip]
    · simp only [if_true] at ho
      simp [execOp, ho, hv, show a.eval (.const (.slice none 0 0)) = .slice none 0 0 from rfl, hg, hne, flip]
  split at he
  · cases rx; cases he; exact key none 0 _ rfl _ rfl
  · cases rx; cases he; exact key (some _) 0 _ rfl _ rfl
  · cases he
    cases rx with
    | ro => exact key (some _) _ _ rfl _ rfl
  · rename_i id off len cl
    cases hvo : validO H id cl <;> rw [hvo] at he <;> cases he
    obtain ⟨r, hr, hcl', hbx, hcase⟩ := own_real hH hvo rx
    rcases hcase with ⟨k, base, c, cs, et, fr, hk, b1, b2, b3, hw, b4, rfl⟩ | ⟨h0, h1, ad, rfl⟩
    · exact key (some _) _ _ rfl _ rfl
    · omega
  · cases he
theorem ok_most (hH : HRel w R H) (hE : ERel w R H env a.tmps) (hG : GlobOK cx gs w (Xof H R)) {o : Oper} {c : Call} {ys : List Opd} {e : Eff}
    (ho : o.op = .call c) (hc : c.callee = .builtin .max) (hx : mOpdL gs c.args.toList ys = true) (he : evOp cx env H (.most ys) = some e) : OpOK P o a w R H e := by
  simp only [evOp] at he
  split at he <;> cases he
  rename_i x r hi
  have hm := ints_rep hE hG hx hi
  refine OpOK.pure hH (v := .int .i64 (mostOf x r)) ?_ (.int _ _ _)
  have := run_most (P := P) (w := w) r x
  rw [List.map_cons] at hm
  simp [execOp, ho, resolve, hc, invoke, builtin, Builtin.max_, hm, this]
theorem ok_least (hH : HRel w R H) (hE : ERel w R H env a.tmps) (hG : GlobOK cx gs w (Xof H R)) {o : Oper} {c : Call} {ys : List Opd} {e : Eff}
    (ho : o.op = .call c) (hc : c.callee = .builtin .min) (hx : mOpdL gs c.args.toList ys = true) (he : evOp cx env H (.least ys) = some e) : OpOK P o a w R H e := by
  simp only [evOp] at he
  split at he <;> cases he
  rename_i x r hi
  have hm := ints_rep hE hG hx hi
  refine OpOK.pure hH (v := .int .i64 (leastOf x r)) ?_ (.int _ _ _)
  have := run_least (P := P) (w := w) r x
  rw [List.map_cons] at hm
  simp [execOp, ho, resolve, hc, invoke, builtin, Builtin.min_, hm, this]
end
end Go.Ev
namespace Go.Ev
open Go
set_option linter.unusedSectionVars false
set_option linter.unusedSimpArgs false
set_option linter.unusedVariables false
variable [Frame]
def sliceEl (P : Program) (t : TypeId) : Option TypeId :=
  match P.underlying t with
  | some (.slice el) => some el
  | _ => none
def arrayEl (P : Program) (t : TypeId) : Option (Nat × TypeId) :=
  match P.underlying t with
  | some (.array n el) => some (n, el)
  | _ => none
def isStr (P : Program) (t : TypeId) : Bool :=
  match P.underlying t with
  | some .string => true
  | _ => false
def intTy (P : Program) (t : TypeId) : Option IntKind :=
  match P.underlying t with
  | some (.int k) => some k
  | _ => none
def fieldOf (P : Program) (t : TypeId) (i : Nat) : Option Field :=
  match P.underlying t with
  | some (.struct fs) => fs[i]?
  | _ => none
def isPlain (P : Program) (t : TypeId) : Bool :=
  match P.underlying t with
  | some (.interface _) => false
  | some _ => true
  | none => false
def mZero (P : Program) (t : TypeId) (z : List PV) : Bool :=
  match P.info? t with
  | some i => match i.zero with
    | some v => mConstL v.cells.toList z
    | none => false
  | none => false
def mZeroS (P : Program) (t : TypeId) (z : List PV) (sz bytes : Nat) : Bool :=
  match P.info? t with
  | some i => match i.zero with
    | some v => mConstL v.cells.toList z && Nat.beq i.size sz && Nat.beq i.bytes bytes
    | none => false
  | none => false
def mBuild (P : Program) (gs : List Nat) (t : TypeId) (xs : Array (Nat × Operand)) (z : List PV) (ps : List (Nat × Nat × Opd)) : Bool :=
  match P.info? t, P.underlying t with
  | some it, some (.array _ e) => match it.zero, P.info? e with
    | some v, some ie => mConstL v.cells.toList z && mParts gs (fun i => some (i * ie.size, ie.size)) xs.toList ps
    | _, _ => false
  | some it, some (.struct fields) => match it.zero, fields.toList.mapM (fun f => (P.info? f.type).map fun i => (f.offset, i.size)) with
    | some v, some places => mConstL v.cells.toList z && mParts gs (places.toArray[·]?) xs.toList ps
    | _, _ => false
  | _, _ => false
def mElem (P : Program) (el : TypeId) (sz bytes : Nat) : Bool :=
  match P.info? el with
  | some i => match i.zero with
    | some v => Nat.beq i.size sz && Nat.beq i.bytes bytes && Nat.beq v.cells.size sz && Nat.blt 0 bytes
    | none => false
  | none => false
def mBuiltin (o : Oper) (b : Builtin) : Option Call :=
  match o.op with
  | .call c => match c.callee with
    | .builtin b' => if b = b' then some c else none
    | _ => none
  | _ => none
def oneArg (c : Call) : Option (Operand × TypeId) :=
  match c.args.toList, c.argTypes[0]? with
  | [x], some t => some (x, t)
  | _, _ => none
def twoArgs (c : Call) : Option (Operand × Operand × TypeId × TypeId) :=
  match c.args.toList, c.argTypes[0]?, c.argTypes[1]? with
  | [x, y], some t, some u => some (x, y, t, u)
  | _, _, _ => none
def calleeIs (c : Call) (f : FuncId) : Bool :=
  match c.callee with
  | .value (.func g) => decide (g = f)
  | _ => false
def mOp (P : Program) (gs : List Nat) (o : Oper) : IOp → Bool
  | .mov y => match o.op with
    | .move x => mOpd gs x y
    | .assign x => mOpd gs x y
    | _ => false
  | .pick c' x' y' => match o.op with
    | .pick c x y => mOpd gs c c' && mOpd gs x x' && mOpd gs y y'
    | _ => false
  | .alloc _ z => match o.op with
    | .alloc t => mZero P t z
    | _ => false
  | .box _ x' => match o.op with
    | .box _ x => mOpd gs x x'
    | _ => false
  | .build z ps => match o.op with
    | .build t xs => mBuild P gs t xs z ps
    | _ => false
  | .bslice _ esz ys => match o.op with
    | .buildSlice t n xs => match sliceEl P t with
      | some el => match P.info? el with
        | some i => i.zero.isSome && Nat.beq i.size esz && Nat.blt 0 esz && Nat.beq n xs.size && Nat.ble (n * esz) 16777216 && mElems gs 0 xs.toList ys
        | none => false
      | none => false
    | _ => false
  | .load sz agg x' => match o.op with
    | .load t x => decide (tySize P t = some sz) && decide (tyAgg P t = some agg) && (!agg || Nat.blt 0 sz) && mOpd gs x x'
    | _ => false
  | .store sz x' y' => match o.op with
    | .store t x y => decide (tySize P t = some sz) && o.dst.isNone && mOpd gs x x' && mOpd gs y y'
    | _ => false
  | .nilchk x' => match o.op with
    | .nilCheck x => mOpd gs x x'
    | _ => false
  | .bin op x' y' => match o.op with
    | .binOp op' _ x y _ => decide (op' = op) && mOpd gs x x' && mOpd gs y y'
    | _ => false
  | .eq neg agg ks x' y' => match o.op with
    | .binOp op t x y _ => decide (op = (if neg then .neq else .eql)) && decide (eqTy P 100 t = some ks) && decide (tyAgg P t = some agg) && !(P.eqGuardType P.depth t) && mOpd gs x x' && mOpd gs y y'
    | _ => false
  | .un op x' => match o.op with
    | .unOp op' _ x => decide (op' = op) && mOpd gs x x'
    | _ => false
  | .toInt k x' => match o.op with
    | .convert src dst x => (intTy P src).isSome && decide (intTy P dst = some k) && mOpd gs x x'
    | _ => false
  | .same x' => match o.op with
    | .convert src dst x => isStr P src && isStr P dst && mOpd gs x x'
    | _ => false
  | .mkf f caps' => match o.op with
    | .makeFunc (.func g) a caps => decide (g = f) && Nat.beq a.size 0 && mOpds gs caps.toList caps'
    | _ => false
  | .mki t x' => match o.op with
    | .makeInterface u x => decide (u = t) && isPlain P t && mOpd gs x x'
    | _ => false
  | .mksl _ esb z l' c' => match o.op with
    | .makeSlice t l c => match sliceEl P t with
      | some el => mZeroS P el z z.length esb && Nat.blt 0 z.length && Nat.blt 0 esb && mOpd gs l l' && mOpd gs c c'
      | none => false
    | _ => false
  | .slcS x' lo' hi' => match o.op with
    | .slice t x lo hi none => isStr P t && mOpd gs x x' && mOpt gs lo lo' && mOpt gs hi hi'
    | _ => false
  | .slc esz x' lo' hi' mx' => match o.op with
    | .slice t x lo hi mx => match sliceEl P t with
      | some el => decide (tySize P el = some esz) && mOpd gs x x' && mOpt gs lo lo' && mOpt gs hi hi' && mOpt gs mx mx' && (!mx'.isSome || hi'.isSome)
      | none => false
    | _ => false
  | .faddr off x' => match o.op with
    | .fieldAddr t x i => match fieldOf P t i with
      | some f => Nat.beq f.offset off && (match tySize P f.type with | some n => Nat.blt 0 n | none => false) && mOpd gs x x'
      | none => false
    | _ => false
  | .field off sz agg x' => match o.op with
    | .field t x i => match fieldOf P t i with
      | some f => Nat.beq f.offset off && decide (tySize P f.type = some sz) && decide (tyAgg P f.type = some agg) && mOpd gs x x'
      | none => false
    | _ => false
  | .iaddr esz x' ix' => match o.op with
    | .indexAddr t x ix => match sliceEl P t with
      | some el => decide (tySize P el = some esz) && mOpd gs x x' && mOpd gs ix ix'
      | none => false
    | _ => false
  | .iaddrA n esz x' ix' => match o.op with
    | .indexAddr t x ix => match arrayEl P t with
      | some (m, el) => Nat.beq m n && decide (tySize P el = some esz) && mOpd gs x x' && mOpd gs ix ix'
      | none => false
    | _ => false
  | .idxS x' ix' => match o.op with
    | .index t x ix => isStr P t && mOpd gs x x' && mOpd gs ix ix'
    | _ => false
  | .ext x' i => match o.op with
    | .extract x j => Nat.beq j i && mOpd gs x x'
    | _ => false
  | .len x' => match mBuiltin o .len with
    | some c => match oneArg c with
      | some (x, t) => (sliceEl P t).isSome && mOpd gs x x'
      | none => false
    | none => false
  | .lenS x' => match mBuiltin o .len with
    | some c => match oneArg c with
      | some (x, t) => isStr P t && mOpd gs x x'
      | none => false
    | none => false
  | .app _ esz esb x' y' => match mBuiltin o .append with
    | some c => match twoArgs c with
      | some (x, y, t, u) => match sliceEl P t with
        | some el => mElem P el esz esb && ((sliceEl P u).isSome || isStr P u) && mOpd gs x x' && mOpd gs y y'
        | none => false
      | none => false
    | none => false
  | .copy esz x' y' => match mBuiltin o .copy with
    | some c => match twoArgs c with
      | some (x, y, t, _) => match sliceEl P t with
        | some el => decide (tySize P el = some esz) && mOpd gs x x' && mOpd gs y y'
        | none => false
      | none => false
    | none => false
  | .clear _ z x' => match mBuiltin o .clear with
    | some c => match oneArg c with
      | some (x, t) => match sliceEl P t with
        | some el => mZero P el z && mOpd gs x x'
        | none => false
      | none => false
    | none => false
  | .call f as _ _ => match o.op with
    | .call c => calleeIs c f && plainModes as && mArgs gs c.args.toList as
    | _ => false
  | .callv fx' as _ _ => match o.op with
    | .call c => match c.callee with
      | .value fx => mOpd gs fx fx' && plainModes as && mArgs gs c.args.toList as
      | _ => false
    | _ => false
  | .isnl neg x' => match o.op with
    | .binOp op t x y _ => match y with
      | .const (.slice none 0 0) => decide (op = if neg then .neq else .eql) && (sliceEl P t).isSome && mOpd gs x x'
      | _ => false
    | _ => false
  | .stop => true
  | .most ys => match mBuiltin o .max with
    | some c => mOpdL gs c.args.toList ys
    | none => false
  | .least ys => match mBuiltin o .min with
    | some c => mOpdL gs c.args.toList ys
    | none => false
  | .toStr x' => match o.op with
    | .convert src dst x => match sliceEl P src with
      | some el => match intTy P el with
        | some .u8 => isStr P dst && mOpd gs x x'
        | _ => false
      | none => false
    | _ => false
  | .rng _ x' => match o.op with
    | .range t x => isStr P t && mOpd gs x x'
    | _ => false
  | .nxt x' => match o.op with
    | .next x b => b && mOpd gs x x'
    | _ => false
  | _ => false
theorem sliceEl_spec {P : Program} {t el : TypeId} (h : sliceEl P t = some el) : P.underlying t = some (.slice el) := by
  unfold sliceEl at h; split at h <;> cases h; assumption
theorem arrayEl_spec {P : Program} {t el : TypeId} {n : Nat} (h : arrayEl P t = some (n, el)) : P.underlying t = some (.array n el) := by
  unfold arrayEl at h; split at h <;> cases h; assumption
theorem isStr_spec {P : Program} {t : TypeId} (h : isStr P t = true) : P.underlying t = some .string := by
  unfold isStr at h; split at h <;> first | (cases h; done) | assumption
theorem intTy_spec {P : Program} {t : TypeId} {k : IntKind} (h : intTy P t = some k) : P.underlying t = some (.int k) := by
  unfold intTy at h; split at h <;> cases h; assumption
theorem fieldOf_spec {P : Program} {t : TypeId} {i : Nat} {f : Field} (h : fieldOf P t i = some f) : ∃ fs, P.underlying t = some (.struct fs) ∧ fs[i]? = some f := by
  unfold fieldOf at h; split at h <;> first | (cases h; done) | exact ⟨_, by assumption, h⟩
theorem isPlain_spec {P : Program} {t : TypeId} (h : isPlain P t = true) : ∃ d, P.underlying t = some d ∧ ∀ ms, d ≠ .interface ms := by
  unfold isPlain at h
  split at h <;> first | (cases h; done) | skip
  rename_i d hne hd
  exact ⟨d, hd, fun ms e => hne ms (by rw [← e])⟩
theorem mZero_spec {P : Program} {t : TypeId} {z : List PV} (h : mZero P t z = true) : ∃ i v, P.info? t = some i ∧ i.zero = some v ∧ mConstL v.cells.toList z = true := by
  unfold mZero at h
  split at h <;> first | (cases h; done) | skip
  split at h <;> first | (cases h; done) | skip
  exact ⟨_, _, by assumption, by assumption, h⟩
theorem mZeroS_spec {P : Program} {t : TypeId} {z : List PV} {sz b : Nat} (h : mZeroS P t z sz b = true) : ∃ i v, P.info? t = some i ∧ i.zero = some v ∧ mConstL v.cells.toList z = true ∧ i.size = sz ∧ i.bytes = b := by
  unfold mZeroS at h
  split at h <;> first | (cases h; done) | skip
  split at h <;> first | (cases h; done) | skip
  simp only [Bool.and_eq_true] at h
  exact ⟨_, _, by assumption, by assumption, h.1.1, nbeq_iff.1 h.1.2, nbeq_iff.1 h.2⟩
theorem blt_iff {a b : Nat} : Nat.blt a b = true ↔ a < b := by simp [Nat.blt_eq]
theorem mElem_spec {P : Program} {el : TypeId} {sz b : Nat} (h : mElem P el sz b = true) : ∃ i v, P.info? el = some i ∧ i.zero = some v ∧ i.size = sz ∧ i.bytes = b ∧ v.cells.size = sz ∧ 0 < b := by
  unfold mElem at h
  split at h <;> first | (cases h; done) | skip
  split at h <;> first | (cases h; done) | skip
  simp only [Bool.and_eq_true] at h
  exact ⟨_, _, by assumption, by assumption, nbeq_iff.1 h.1.1.1, nbeq_iff.1 h.1.1.2, nbeq_iff.1 h.1.2, blt_iff.1 h.2⟩
theorem mBuiltin_spec {o : Oper} {b : Builtin} {c : Call} (h : mBuiltin o b = some c) : o.op = .call c ∧ c.callee = .builtin b := by
  unfold mBuiltin at h
  split at h <;> first | (cases h; done) | skip
  split at h <;> first | (cases h; done) | skip
  split at h <;> cases h
  subst_vars
  exact ⟨by assumption, by assumption⟩
theorem oneArg_spec {c : Call} {x : Operand} {t : TypeId} (h : oneArg c = some (x, t)) : c.args = #[x] ∧ c.argTypes[0]? = some t := by
  unfold oneArg at h
  split at h <;> cases h
  exact ⟨by apply Array.ext'; assumption, by assumption⟩
theorem twoArgs_spec {c : Call} {x y : Operand} {t u : TypeId} (h : twoArgs c = some (x, y, t, u)) : c.args = #[x, y] ∧ c.argTypes[0]? = some t ∧ c.argTypes[1]? = some u := by
  unfold twoArgs at h
  split at h <;> cases h
  exact ⟨by apply Array.ext'; assumption, by assumption, by assumption⟩
theorem size0 {α : Type} {a : Array α} (h : Nat.beq a.size 0 = true) : a = #[] := by
  have := nbeq_iff.1 h
  simpa using this
theorem calleeIs_spec {c : Call} {f : FuncId} (h : calleeIs c f = true) : c.callee = .value (.func f) := by
  unfold calleeIs at h
  split at h <;> first | (cases h; done) | skip
  rename_i g hc
  have := of_decide_eq_true h
  subst this
  exact hc
end Go.Ev
namespace Go.Ev
open Go
set_option linter.unusedSectionVars false
set_option linter.unusedSimpArgs false
set_option linter.unusedVariables false
variable [Frame]
section
variable {P : Program} {cx : Cx} {gs : List Nat} {w : World} {R : Refs} {H : Heap} {env : Env} {a : Act}
theorem mBuild_spec {t : TypeId} {xs : Array (Nat × Operand)} {z : List PV} {ps : List (Nat × Nat × Opd)} (h : mBuild P gs t xs z ps = true) :
    ∃ place zv, (∀ vs, P.built t vs = Instr.fill place (Value.cells zv) vs) ∧ mConstL zv.cells.toList z = true ∧ mParts gs place xs.toList ps = true := by
  unfold mBuild at h
  split at h <;> first | (cases h; done) | skip
  · rename_i it n el hi hu
    split at h <;> first | (cases h; done) | skip
    rename_i v ie hz hie
    simp only [Bool.and_eq_true] at h
    exact ⟨_, v, fun vs => by simp only [Program.built, hi, hu, hz, hie], h.1, h.2⟩
  · rename_i it fields hi hu
    split at h <;> first | (cases h; done) | skip
    rename_i v places hz hp
    simp only [Bool.and_eq_true] at h
    exact ⟨_, v, fun vs => by simp only [Program.built, hi, hu, hz, hp], h.1, h.2⟩
theorem mOp_ok (hH : HRel w R H) (hE : ERel w R H env a.tmps) (hG : GlobOK cx gs w (Xof H R)) (hcall : ∀ f, FnOK P cx.glob gs cx.call f) {o : Oper} {i : IOp} {e : Eff}
    (hm : mOp P gs o i = true) (he : evOp cx env H i = some e) : OpOK P o a w R H e := by
  cases i <;> simp only [mOp] at hm <;> first | (cases hm; done) | skip
  case mov y =>
    split at hm <;> first | (cases hm; done) | skip
    · rename_i x ho; cases he; exact ok_mov hH hE hG (.inl ho) hm
    · rename_i x ho; cases he; exact ok_mov hH hE hG (.inr ho) hm
  case pick =>
    split at hm <;> first | (cases hm; done) | skip
    rename_i ho
    simp only [Bool.and_eq_true] at hm
    exact ok_pick hH hE hG ho hm.1.1 hm.1.2 hm.2 he
  case alloc =>
    split at hm <;> first | (cases hm; done) | skip
    rename_i ho
    obtain ⟨i, v, h1, h2, h3⟩ := mZero_spec hm
    exact ok_alloc hH ho h1 h2 h3 he
  case box =>
    split at hm <;> first | (cases hm; done) | skip
    rename_i ho
    exact ok_box hH hE hG ho hm he
  case build =>
    split at hm <;> first | (cases hm; done) | skip
    rename_i ho
    obtain ⟨place, zv, h1, h2, h3⟩ := mBuild_spec hm
    exact ok_build hH hE hG place ho h1 h2 h3 he
  case bslice =>
    split at hm <;> first | (cases hm; done) | skip
    rename_i ho
    split at hm <;> first | (cases hm; done) | skip
    rename_i el hel
    split at hm <;> first | (cases hm; done) | skip
    rename_i i hi
    simp only [Bool.and_eq_true] at hm
    obtain ⟨⟨⟨⟨⟨h1, h2⟩, h3⟩, h4⟩, h5⟩, h6⟩ := hm
    obtain ⟨z, hz⟩ := Option.isSome_iff_exists.1 h1
    exact ok_bslice hH hE hG ho (sliceEl_spec hel) hi hz (nbeq_iff.1 h2) (blt_iff.1 h3) (nbeq_iff.1 h4) (Nat.le_of_ble_eq_true h5) h6 he
  case load =>
    split at hm <;> first | (cases hm; done) | skip
    rename_i ho
    simp only [Bool.and_eq_true, decide_eq_true_eq, Bool.or_eq_true, Bool.not_eq_true'] at hm
    refine ok_load hH hE hG ho hm.1.1.1 hm.1.1.2 ?_ hm.2 he
    rcases hm.1.2 with h | h
    · exact .inl h
    · exact .inr (by have := blt_iff.1 h; omega)
  case store =>
    split at hm <;> first | (cases hm; done) | skip
    rename_i ho
    simp only [Bool.and_eq_true, decide_eq_true_eq] at hm
    refine ok_store hH hE hG ho hm.1.1.1 hm.1.2 hm.2 ?_ he
    have := hm.1.1.2
    cases h : o.dst with
    | none => rfl
    | some => rw [h] at this; cases this
  case nilchk =>
    split at hm <;> first | (cases hm; done) | skip
    rename_i ho
    exact ok_nilchk hH hE hG ho hm he
  case bin =>
    split at hm <;> first | (cases hm; done) | skip
    rename_i ho
    simp only [Bool.and_eq_true, decide_eq_true_eq] at hm
    obtain ⟨⟨rfl, h1⟩, h2⟩ := hm
    exact ok_bin hH hE hG ho h1 h2 he
  case eq =>
    split at hm <;> first | (cases hm; done) | skip
    rename_i ho
    simp only [Bool.and_eq_true, decide_eq_true_eq, Bool.not_eq_true'] at hm
    obtain ⟨⟨⟨⟨⟨h1, h2⟩, h3⟩, h4⟩, h5⟩, h6⟩ := hm
    rw [h1] at ho
    exact ok_eq hH hE hG ho h2 h3 h4 h5 h6 he
  case un =>
    split at hm <;> first | (cases hm; done) | skip
    rename_i ho
    simp only [Bool.and_eq_true, decide_eq_true_eq] at hm
    obtain ⟨rfl, h1⟩ := hm
    exact ok_un hH hE hG ho h1 he
  case toInt =>
    split at hm <;> first | (cases hm; done) | skip
    rename_i ho
    simp only [Bool.and_eq_true, decide_eq_true_eq] at hm
    obtain ⟨k0, hk⟩ := Option.isSome_iff_exists.1 hm.1.1
    exact ok_toInt hH hE hG ho (intTy_spec hk) (intTy_spec hm.1.2) hm.2 he
  case same =>
    split at hm <;> first | (cases hm; done) | skip
    rename_i ho
    simp only [Bool.and_eq_true] at hm
    exact ok_same hH hE hG ho (isStr_spec hm.1.1) (isStr_spec hm.1.2) hm.2 he
  case mkf =>
    split at hm <;> first | (cases hm; done) | skip
    rename_i ho
    simp only [Bool.and_eq_true, decide_eq_true_eq] at hm
    obtain ⟨⟨rfl, h1⟩, h2⟩ := hm
    rw [size0 h1] at ho
    simp only [evOp] at he
    split at he <;> cases he
    rename_i hcv
    exact ok_mkf hH hE hG ho h2 hcv
  case mki =>
    split at hm <;> first | (cases hm; done) | skip
    rename_i ho
    simp only [Bool.and_eq_true, decide_eq_true_eq] at hm
    obtain ⟨⟨rfl, h1⟩, h2⟩ := hm
    cases he
    exact ok_mki hH hE hG ho (isPlain_spec h1) h2
  case mksl =>
    split at hm <;> first | (cases hm; done) | skip
    rename_i ho
    split at hm <;> first | (cases hm; done) | skip
    rename_i el hel
    simp only [Bool.and_eq_true] at hm
    obtain ⟨⟨⟨⟨h1, h2⟩, h3⟩, h4⟩, h5⟩ := hm
    obtain ⟨i, v, q1, q2, q3, q4, rfl⟩ := mZeroS_spec h1
    exact ok_mksl hH hE hG ho (sliceEl_spec hel) q1 q2 q3 q4 (by
      have := blt_iff.1 h2
      intro e; subst e; simp at this) (blt_iff.1 h3) h4 h5 he
  case slcS =>
    split at hm <;> first | (cases hm; done) | skip
    rename_i ho
    simp only [Bool.and_eq_true] at hm
    exact ok_slcS hH hE hG ho (isStr_spec hm.1.1.1) hm.1.1.2 hm.1.2 hm.2 he
  case slc =>
    split at hm <;> first | (cases hm; done) | skip
    rename_i ho
    split at hm <;> first | (cases hm; done) | skip
    rename_i el hel
    simp only [Bool.and_eq_true, decide_eq_true_eq, Bool.or_eq_true, Bool.not_eq_true'] at hm
    obtain ⟨⟨⟨⟨⟨h1, h2⟩, h3⟩, h4⟩, h5⟩, h6⟩ := hm
    refine ok_slc hH hE hG ho (sliceEl_spec hel) h1 h2 h3 h4 h5 (fun h => ?_) he
    rcases h6 with h6 | h6
    · rw [h] at h6; cases h6
    · exact h6
  case faddr =>
    split at hm <;> first | (cases hm; done) | skip
    rename_i ho
    split at hm <;> first | (cases hm; done) | skip
    rename_i f hf
    obtain ⟨fs, hu, hfs⟩ := fieldOf_spec hf
    simp only [Bool.and_eq_true] at hm
    obtain ⟨⟨h1, h2⟩, h3⟩ := hm
    have h1 := nbeq_iff.1 h1
    subst h1
    split at h2 <;> first | (cases h2; done) | skip
    rename_i n hn
    exact ok_faddr hH hE hG ho hu hfs hn (by have := blt_iff.1 h2; omega) h3 he
  case field =>
    split at hm <;> first | (cases hm; done) | skip
    rename_i ho
    split at hm <;> first | (cases hm; done) | skip
    rename_i f hf
    obtain ⟨fs, hu, hfs⟩ := fieldOf_spec hf
    simp only [Bool.and_eq_true, decide_eq_true_eq] at hm
    obtain ⟨⟨⟨h1, h2⟩, h3⟩, h4⟩ := hm
    have h1 := nbeq_iff.1 h1
    subst h1
    exact ok_field hH hE hG ho hu hfs h2 h3 h4 he
  case iaddr =>
    split at hm <;> first | (cases hm; done) | skip
    rename_i ho
    split at hm <;> first | (cases hm; done) | skip
    rename_i el hel
    simp only [Bool.and_eq_true, decide_eq_true_eq] at hm
    exact ok_iaddr hH hE hG ho (sliceEl_spec hel) hm.1.1 hm.1.2 hm.2 he
  case iaddrA =>
    split at hm <;> first | (cases hm; done) | skip
    rename_i ho
    split at hm <;> first | (cases hm; done) | skip
    rename_i m el hel
    simp only [Bool.and_eq_true, decide_eq_true_eq] at hm
    obtain ⟨⟨⟨h1, h2⟩, h3⟩, h4⟩ := hm
    have h1 := nbeq_iff.1 h1
    subst h1
    exact ok_iaddrA hH hE hG ho (arrayEl_spec hel) h2 h3 h4 he
  case idxS =>
    split at hm <;> first | (cases hm; done) | skip
    rename_i ho
    simp only [Bool.and_eq_true] at hm
    exact ok_idxS hH hE hG ho (isStr_spec hm.1.1) hm.1.2 hm.2 he
  case ext =>
    split at hm <;> first | (cases hm; done) | skip
    rename_i ho
    simp only [Bool.and_eq_true] at hm
    have h1 := nbeq_iff.1 hm.1
    subst h1
    exact ok_ext hH hE hG ho hm.2 he
  case len =>
    split at hm <;> first | (cases hm; done) | skip
    rename_i c hc
    split at hm <;> first | (cases hm; done) | skip
    rename_i x t hx
    simp only [Bool.and_eq_true] at hm
    obtain ⟨el, hel⟩ := Option.isSome_iff_exists.1 hm.1
    obtain ⟨b1, b2⟩ := mBuiltin_spec hc
    obtain ⟨x1, x2⟩ := oneArg_spec hx
    exact ok_len hH hE hG b1 b2 x1 x2 (sliceEl_spec hel) hm.2 he
  case lenS =>
    split at hm <;> first | (cases hm; done) | skip
    rename_i c hc
    split at hm <;> first | (cases hm; done) | skip
    rename_i x t hx
    simp only [Bool.and_eq_true] at hm
    obtain ⟨b1, b2⟩ := mBuiltin_spec hc
    obtain ⟨x1, x2⟩ := oneArg_spec hx
    exact ok_lenS hH hE hG b1 b2 x1 x2 (isStr_spec hm.1) hm.2 he
  case app =>
    split at hm <;> first | (cases hm; done) | skip
    rename_i c hc
    split at hm <;> first | (cases hm; done) | skip
    rename_i x y t u hx
    split at hm <;> first | (cases hm; done) | skip
    rename_i el hel
    simp only [Bool.and_eq_true, Bool.or_eq_true] at hm
    obtain ⟨⟨⟨h1, h2⟩, h3⟩, h4⟩ := hm
    obtain ⟨b1, b2⟩ := mBuiltin_spec hc
    obtain ⟨x1, x2, x3⟩ := twoArgs_spec hx
    obtain ⟨i, v, q1, q2, q3, rfl, q5, q6⟩ := mElem_spec h1
    rcases h2 with h2 | h2
    · obtain ⟨el2, hel2⟩ := Option.isSome_iff_exists.1 h2
      exact ok_app (el2 := el2) hH hE hG b1 b2 x1 x2 (sliceEl_spec hel) q1 q2 x3 (.inl (sliceEl_spec hel2)) q3 q5 q6 h3 h4 he
    · exact ok_app (el2 := el) hH hE hG b1 b2 x1 x2 (sliceEl_spec hel) q1 q2 x3 (.inr (isStr_spec h2)) q3 q5 q6 h3 h4 he
  case copy =>
    split at hm <;> first | (cases hm; done) | skip
    rename_i c hc
    split at hm <;> first | (cases hm; done) | skip
    rename_i x y t u hx
    split at hm <;> first | (cases hm; done) | skip
    rename_i el hel
    simp only [Bool.and_eq_true, decide_eq_true_eq] at hm
    obtain ⟨b1, b2⟩ := mBuiltin_spec hc
    obtain ⟨x1, x2, _⟩ := twoArgs_spec hx
    exact ok_copy hH hE hG b1 b2 x1 x2 (sliceEl_spec hel) hm.1.1 hm.1.2 hm.2 he
  case clear =>
    split at hm <;> first | (cases hm; done) | skip
    rename_i c hc
    split at hm <;> first | (cases hm; done) | skip
    rename_i x t hx
    split at hm <;> first | (cases hm; done) | skip
    rename_i el hel
    simp only [Bool.and_eq_true] at hm
    obtain ⟨b1, b2⟩ := mBuiltin_spec hc
    obtain ⟨x1, x2⟩ := oneArg_spec hx
    obtain ⟨i, v, q1, q2, q3⟩ := mZero_spec hm.1
    exact ok_clear hH hE hG b1 b2 x1 x2 (sliceEl_spec hel) q1 q2 q3 hm.2 he
  case call =>
    split at hm <;> first | (cases hm; done) | skip
    rename_i c ho
    simp only [Bool.and_eq_true] at hm
    obtain ⟨⟨h1, h3⟩, h4⟩ := hm
    exact ok_call hH hE hG ho (calleeIs_spec h1) (hcall _) h3 h4 he
  case isnl =>
    split at hm <;> first | (cases hm; done) | skip
    rename_i ho
    split at hm <;> first | (cases hm; done) | skip
    simp only [Bool.and_eq_true, decide_eq_true_eq] at hm
    obtain ⟨⟨rfl, h1⟩, h2⟩ := hm
    obtain ⟨el, hel⟩ := Option.isSome_iff_exists.1 h1
    exact ok_isnl hH hE hG ho (sliceEl_spec hel) h2 he
  case stop => cases he
  case most =>
    split at hm <;> first | (cases hm; done) | skip
    rename_i c hc
    obtain ⟨b1, b2⟩ := mBuiltin_spec hc
    exact ok_most hH hE hG b1 b2 hm he
  case least =>
    split at hm <;> first | (cases hm; done) | skip
    rename_i c hc
    obtain ⟨b1, b2⟩ := mBuiltin_spec hc
    exact ok_least hH hE hG b1 b2 hm he
  case toStr =>
    split at hm <;> first | (cases hm; done) | skip
    rename_i ho
    split at hm <;> first | (cases hm; done) | skip
    rename_i el hel
    split at hm <;> first | (cases hm; done) | skip
    rename_i hk
    simp only [Bool.and_eq_true] at hm
    exact ok_toStr hH hE hG ho (sliceEl_spec hel) (intTy_spec hk) (isStr_spec hm.1) hm.2 he
  case callv =>
    split at hm <;> first | (cases hm; done) | skip
    rename_i c ho
    split at hm <;> first | (cases hm; done) | skip
    rename_i fx hc
    simp only [Bool.and_eq_true] at hm
    obtain ⟨⟨h1, h3⟩, h4⟩ := hm
    exact ok_callv hH hE hG ho hc h1 hcall h3 h4 he
  case rng =>
    split at hm <;> first | (cases hm; done) | skip
    rename_i ho
    simp only [Bool.and_eq_true] at hm
    exact ok_rng hH hE hG ho (isStr_spec hm.1) hm.2 he
  case nxt =>
    split at hm <;> first | (cases hm; done) | skip
    rename_i x b ho
    simp only [Bool.and_eq_true] at hm
    obtain ⟨rfl, h1⟩ := hm
    exact ok_nxt hH hE hG ho h1 he
end
end Go.Ev
namespace Go.Ev
open Go
set_option linter.unusedSectionVars false
set_option linter.unusedSimpArgs false
set_option linter.unusedVariables false
variable [Frame]
def Same (H H' : Heap) (ids : List Nat) : Prop := ∀ i ∈ ids, hget H' i = hget H i
theorem Same.sub {H H' : Heap} {a b : List Nat} (h : Same H H' a) (hs : ∀ i ∈ b, i ∈ a) : Same H H' b := fun i hi => h i (hs i hi)
theorem Same.left {H H' : Heap} {a b : List Nat} (h : Same H H' (a ++ b)) : Same H H' a := h.sub fun _ => List.mem_append_left _
theorem Same.right {H H' : Heap} {a b : List Nat} (h : Same H H' (a ++ b)) : Same H H' b := h.sub fun _ => List.mem_append_right _
section
variable {H H' : Heap}
theorem clo1_local {p q : PV} {ids : List Nat} (h : clo1 H p = some (q, ids)) (hs : Same H H' ids) : clo1 H' p = some (q, ids) := by
  cases p with
  | own id off len cl =>
    simp only [clo1] at h ⊢
    have key : ∀ b, hget H id = some b → ids = [id] → hget H' id = some b := fun b hb hi => by rw [hs id (by rw [hi]; exact .head _)]; exact hb
    split at h <;> first | (cases h; done) | skip
    · rename_i z rows hg
      split at h <;> cases h
      rename_i hb
      rw [key _ hg rfl]
      simp [hb]
    · rename_i z rows hg
      split at h <;> cases h
      rename_i hb
      rw [key _ hg rfl]
      simp [hb]
  | _ => exact h
theorem cloL_local : ∀ {ps qs : List PV} {ids : List Nat}, cloL H ps = some (qs, ids) → Same H H' ids → cloL H' ps = some (qs, ids)
  | [], qs, ids, h, _ => h
  | p :: ps, qs, ids, h, hs => by
    simp only [cloL] at h ⊢
    split at h <;> first | (cases h; done) | skip
    rename_i a x h1
    split at h <;> cases h
    rename_i b y h2
    rw [clo1_local h1 hs.left, cloL_local h2 hs.right]
theorem cloP_local {p q : PV} {ids : List Nat} (h : cloP H p = some (q, ids)) (hs : Same H H' ids) : cloP H' p = some (q, ids) := by
  cases p with
  | ptr id j =>
    simp only [cloP] at h ⊢
    split at h <;> first | (cases h; done) | skip
    rename_i cells hg
    split at h <;> first | (cases h; done) | skip
    rename_i cs x h1
    split at h <;> cases h
    rename_i hb
    have hi : hget H' id = some (.box cells) := by rw [hs id (.head _)]; exact hg
    rw [hi]
    simp only
    rw [cloL_local h1 (hs.sub fun i hi => .tail _ hi)]
    simp [hb]
  | _ => simp only [cloP] at h ⊢; exact clo1_local h hs
theorem cloPs_local : ∀ {ps qs : List PV} {ids : List Nat}, cloPs H ps = some (qs, ids) → Same H H' ids → cloPs H' ps = some (qs, ids)
  | [], qs, ids, h, _ => h
  | p :: ps, qs, ids, h, hs => by
    simp only [cloPs] at h ⊢
    split at h <;> first | (cases h; done) | skip
    rename_i a x h1
    split at h <;> cases h
    rename_i b y h2
    rw [cloP_local h1 hs.left, cloPs_local h2 hs.right]
theorem map_some {α β : Type} {o : Option α} {f : α → β} {y : β} (h : o.map f = some y) : ∃ x, o = some x ∧ f x = y := by
  cases o with
  | none => cases h
  | some x => cases h; exact ⟨x, rfl, rfl⟩
theorem clo2_local {p q : PV} {ids : List Nat} (h : clo2 H p = some (q, ids)) (hs : Same H H' ids) : clo2 H' p = some (q, ids) := by
  cases p with
  | agg cs =>
    simp only [clo2] at h ⊢
    obtain ⟨⟨a, x⟩, h1, h2⟩ := map_some h
    cases h2
    rw [cloL_local h1 hs]; rfl
  | func f cs =>
    simp only [clo2] at h ⊢
    obtain ⟨⟨a, x⟩, h1, h2⟩ := map_some h
    cases h2
    rw [cloPs_local h1 hs]; rfl
  | iface t v =>
    cases v with
    | agg cs =>
      simp only [clo2] at h ⊢
      obtain ⟨⟨a, x⟩, h1, h2⟩ := map_some h
      cases h2
      rw [cloL_local h1 hs]; rfl
    | _ =>
      simp only [clo2] at h ⊢
      obtain ⟨⟨a, x⟩, h1, h2⟩ := map_some h
      cases h2
      rw [clo1_local h1 hs]; rfl
  | _ => simp only [clo2] at h ⊢; exact cloP_local h hs
theorem clo2s_local : ∀ {ps qs : List PV} {ids : List Nat}, clo2s H ps = some (qs, ids) → Same H H' ids → clo2s H' ps = some (qs, ids)
  | [], qs, ids, h, _ => h
  | p :: ps, qs, ids, h, hs => by
    simp only [clo2s] at h ⊢
    split at h <;> first | (cases h; done) | skip
    rename_i a x h1
    split at h <;> cases h
    rename_i b y h2
    rw [clo2_local h1 hs.left, clo2s_local h2 hs.right]
theorem clo_local {p q : PV} {ids : List Nat} (h : clo H p = some (q, ids)) (hs : Same H H' ids) : clo H' p = some (q, ids) := by
  cases p with
  | tuple vs =>
    simp only [clo] at h ⊢
    obtain ⟨⟨a, x⟩, h1, h2⟩ := map_some h
    cases h2
    rw [clo2s_local h1 hs]; rfl
  | _ => simp only [clo] at h ⊢; exact clo2_local h hs
theorem frees_local : ∀ {ids : List Nat} {u : List (Nat × Blk)}, frees H ids = some u → Same H H' ids → frees H' ids = some u
  | [], u, h, _ => h
  | i :: r, u, h, hs => by
    have hi := hs i (.head _)
    have hr := fun u h => frees_local (ids := r) (u := u) h (hs.sub fun j hj => .tail _ hj)
    simp only [frees] at h ⊢
    rw [hi]
    split at h <;> first | (cases h; done) | skip
    · rename_i sz rows u' h1 h2
      cases h
      rw [h1, hr _ h2]
    · rename_i sz rows u' h1 h2
      cases h
      rw [h1, hr _ h2]
theorem hasAll_local : ∀ {ids : List Nat}, hasAll H ids = true → Same H H' ids → hasAll H' ids = true
  | [], _, _ => rfl
  | i :: r, h, hs => by
    have hi := hs i (.head _)
    have hr := fun h => hasAll_local (ids := r) h (hs.sub fun j hj => .tail _ hj)
    simp only [hasAll] at h ⊢
    rw [hi]
    split at h <;> first | (cases h; done) | skip
    exact hr h
theorem mov1_local {esz : Nat} {p q : PV} {ids : List Nat} (h : mov1 H esz p = some (q, ids)) (hs : Same H H' ids) : mov1 H' esz p = some (q, ids) := by
  cases p with
  | own id off len cl =>
    simp only [mov1] at h ⊢
    split at h <;> first | (cases h; done) | skip
    rename_i sz rows hg
    split at h <;> cases h
    rename_i hb
    rw [hs id (.head _), hg]
    simp [hb]
  | _ => exact h
theorem rowOf_local {p : PV} {cs : List PV} {ids : List Nat} (h : rowOf H p = some (cs, ids)) (hs : Same H H' ids) : rowOf H' p = some (cs, ids) := by
  unfold rowOf at h ⊢
  split at h <;> first | (cases h; done) | skip
  exact cloL_local h hs
theorem rowsOf_local {esz : Nat} : ∀ {ps : List PV} {rows : List (List PV)} {ids : List Nat}, rowsOf H esz ps = some (rows, ids) → Same H H' ids → rowsOf H' esz ps = some (rows, ids)
  | [], _, _, h, _ => h
  | p :: ps, rows, ids, h, hs => by
    simp only [rowsOf] at h ⊢
    split at h <;> first | (cases h; done) | skip
    rename_i a x h1
    split at h <;> cases h
    rename_i b y hb h2
    rw [rowOf_local h1 hs.left]
    simp only
    rw [rowsOf_local h2 hs.right, hb]
theorem rowsIn_local {esz : Nat} {p : PV} {rows : List (List PV)} {ids : List Nat} (h : rowsIn H esz p = some (rows, ids)) (hs : Same H H' ids) : rowsIn H' esz p = some (rows, ids) := by
  cases p with
  | own id off len cl =>
    simp only [rowsIn] at h ⊢
    split at h <;> first | (cases h; done) | skip
    · rename_i sz rs hg
      split at h <;> cases h
      rename_i h1 h2
      rw [hs id (.head _), hg]
      simp [h1, h2]
    · rename_i sz rs hg
      split at h <;> cases h
      rename_i h1 h2
      rw [hs id (.head _), hg]
      simp [h1, h2]
  | _ => exact h
theorem newIds_local : ∀ {l : List (Nat × Blk)} {seen : List Nat}, newIds H l seen = true → Same H H' (keys l) → newIds H' l seen = true
  | [], _, h, _ => h
  | (i, b) :: r, seen, h, hs => by
    have hi := hs i (.head _)
    simp only [newIds] at h ⊢
    rw [hi]
    split at h <;> first | (cases h; done) | skip
    split at h <;> first | (cases h; done) | skip
    exact newIds_local h (hs.sub fun j hj => .tail _ hj)
end
end Go.Ev
namespace Go.Ev
open Go
set_option linter.unusedSectionVars false
set_option linter.unusedSimpArgs false
set_option linter.unusedVariables false
variable [Frame]
def tmpsO : Opd → List Nat
  | .t i => [i]
  | _ => []
def tmpsL : List Opd → List Nat
  | [] => []
  | x :: r => tmpsO x ++ tmpsL r
def tmpsM : Option Opd → List Nat
  | none => []
  | some x => tmpsO x
def tmpsP : List (Nat × Nat × Opd) → List Nat
  | [] => []
  | (_, _, x) :: r => tmpsO x ++ tmpsP r
def tmpsA : List (Mode × Opd) → List Nat
  | [] => []
  | (_, x) :: r => tmpsO x ++ tmpsA r
def tmpsOp : IOp → List Nat
  | .mov x | .box _ x | .nilchk x | .eqn _ x | .isnl _ x | .un _ x | .toInt _ x | .same x | .toBytes x | .toStr x | .mki _ x | .faddr _ x | .field _ _ _ x | .ext x _ | .len x | .lenS x | .lenA _ x | .clear _ _ x | .rng _ x | .nxt x | .tas _ _ _ x => tmpsO x
  | .load _ _ a => tmpsO a
  | .pick c a b => tmpsO c ++ (tmpsO a ++ tmpsO b)
  | .alloc _ _ | .stop => []
  | .build _ ps => tmpsP ps
  | .bslice _ _ ps => tmpsL ps
  | .store _ x y | .bin _ x y | .eq _ _ _ x y | .mksl _ _ _ x y | .iaddr _ x y | .iaddrA _ _ x y | .idxA _ _ _ x y | .idxS x y | .app _ _ _ x y | .copy _ x y => tmpsO x ++ tmpsO y
  | .mkf _ xs | .least xs | .most xs => tmpsL xs
  | .slcS x lo hi => tmpsO x ++ (tmpsM lo ++ tmpsM hi)
  | .slc _ x lo hi mx => tmpsO x ++ (tmpsM lo ++ (tmpsM hi ++ tmpsM mx))
  | .call _ as _ _ => tmpsA as
  | .callv x as _ _ | .inv x _ as _ _ => tmpsO x ++ tmpsA as
def SameT (env env' : Env) (ts : List Nat) : Prop := ∀ t ∈ ts, getT env' t = getT env t
theorem SameT.left {env env' : Env} {a b : List Nat} (h : SameT env env' (a ++ b)) : SameT env env' a := fun i hi => h i (List.mem_append_left _ hi)
theorem SameT.right {env env' : Env} {a b : List Nat} (h : SameT env env' (a ++ b)) : SameT env env' b := fun i hi => h i (List.mem_append_right _ hi)
section
variable {cx : Cx} {env env' : Env} {H : Heap}
theorem opd_same {x : Opd} (h : SameT env env' (tmpsO x)) : opd cx env' x = opd cx env x := by
  cases x with
  | t i => exact h i (.head _)
  | c v => rfl
  | g i => rfl
theorem opds_same : ∀ {xs : List Opd}, SameT env env' (tmpsL xs) → opds cx env' xs = opds cx env xs
  | [], _ => rfl
  | x :: xs, h => by simp only [opds]; rw [opd_same h.left, opds_same h.right]
theorem fillc_same : ∀ {ps : List (Nat × Nat × Opd)} {z : List PV}, SameT env env' (tmpsP ps) → fillc (opd cx env') ps z = fillc (opd cx env) ps z
  | [], _, _ => rfl
  | (o, n, x) :: ps, z, h => by
    simp only [fillc]
    rw [opd_same h.left]
    cases mcells (opd cx env x) with
    | none => rfl
    | some cs => simp only; rw [fillc_same h.right]
theorem bound_same {x : Option Opd} {l m d : Nat} (h : SameT env env' (tmpsM x)) : bound (opd cx env') x l m d = bound (opd cx env) x l m d := by
  cases x with
  | none => rfl
  | some x => simp only [bound]; rw [opd_same h]
theorem args1_same : ∀ {as : List (Mode × Opd)}, SameT env env' (tmpsA as) → args1 H (opd cx env') as = args1 H (opd cx env) as
  | [], _ => rfl
  | (m, x) :: as, h => by simp only [args1]; rw [opd_same h.left, args1_same h.right]
theorem evOp_env {op : IOp} (h : SameT env env' (tmpsOp op)) : evOp cx env' H op = evOp cx env H op := by
  cases op with
  | alloc => rfl
  | stop => rfl
  | build z ps => simp only [evOp]; rw [fillc_same h]
  | bslice id esz ps => simp only [evOp]; rw [opds_same h]
  | mkf f xs => simp only [evOp]; rw [opds_same h]
  | least xs => simp only [evOp]; rw [opds_same h]
  | most xs => simp only [evOp]; rw [opds_same h]
  | pick c a b => simp only [evOp]; rw [opd_same h.left, opd_same h.right.left, opd_same h.right.right]
  | slcS x lo hi =>
    have h1 : ∀ l m d, bound (opd cx env') lo l m d = bound (opd cx env) lo l m d := fun l m d => bound_same h.right.left
    have h2 : ∀ l m d, bound (opd cx env') hi l m d = bound (opd cx env) hi l m d := fun l m d => bound_same h.right.right
    simp only [evOp, opd_same h.left, h1, h2]
  | slc esz x lo hi mx =>
    have h1 : ∀ l m d, bound (opd cx env') lo l m d = bound (opd cx env) lo l m d := fun l m d => bound_same h.right.left
    have h2 : ∀ l m d, bound (opd cx env') hi l m d = bound (opd cx env) hi l m d := fun l m d => bound_same h.right.right.left
    have h3 : ∀ l m d, bound (opd cx env') mx l m d = bound (opd cx env) mx l m d := fun l m d => bound_same h.right.right.right
    simp only [evOp, opd_same h.left, h1, h2, h3]
  | call f as hints base => simp only [evOp]; rw [args1_same h]
  | callv x as hints base => simp only [evOp]; rw [opd_same h.left, args1_same h.right]
  | inv x tab as hints base => simp only [evOp]; rw [opd_same h.left, args1_same h.right]
  | store sz x y => simp only [evOp, opd_same h.left, opd_same h.right]
  | bin op x y => simp only [evOp, opd_same h.left, opd_same h.right]
  | eq n a ks x y => simp only [evOp, opd_same h.left, opd_same h.right]
  | mksl id e z x y => simp only [evOp, opd_same h.left, opd_same h.right]
  | iaddr e x y => simp only [evOp, opd_same h.left, opd_same h.right]
  | iaddrA n e x y => simp only [evOp, opd_same h.left, opd_same h.right]
  | idxA n e a x y => simp only [evOp, opd_same h.left, opd_same h.right]
  | idxS x y => simp only [evOp, opd_same h.left, opd_same h.right]
  | app id e b x y => simp only [evOp, opd_same h.left, opd_same h.right]
  | copy e x y => simp only [evOp, opd_same h.left, opd_same h.right]
  | lenA n x => rfl
  | _ => simp only [evOp, opd_same h]
end
end Go.Ev
namespace Go.Ev
open Go
set_option linter.unusedSectionVars false
set_option linter.unusedSimpArgs false
set_option linter.unusedVariables false
variable [Frame]
section
variable {cx : Cx} {env : Env} {H H' : Heap}
theorem movC_local {esz : Nat} {p q : PV} {x s : List Nat} (h : movC H esz p = some (q, x, s)) (hs : Same H H' (x ++ s)) : movC H' esz p = some (q, x, s) := by
  cases p with
  | nul => exact h
  | own id off len cl =>
    simp only [movC] at h ⊢
    split at h <;> cases h
    rename_i hm
    rw [mov1_local hm hs.left]
  | _ =>
    simp only [movC] at h ⊢
    split at h <;> cases h
    rename_i hm
    rw [clo1_local hm hs.right]
theorem movCs_local : ∀ {zs : List Nat} {ps qs : List PV} {x s : List Nat}, movCs H zs ps = some (qs, x, s) → Same H H' (x ++ s) → movCs H' zs ps = some (qs, x, s)
  | zs, [], qs, x, s, h, _ => by cases zs <;> exact h
  | [], p :: ps, qs, x, s, h, hs => by
    simp only [movCs] at h ⊢
    split at h <;> first | (cases h; done) | skip
    rename_i a x1 s1 h1
    split at h <;> cases h
    rename_i b y t h2
    rw [movC_local h1 (hs.sub fun i hi => by simp only [List.mem_append] at hi ⊢; rcases hi with h | h; exact .inl (.inl h); exact .inr (.inl h))]
    simp only
    rw [movCs_local h2 (hs.sub fun i hi => by simp only [List.mem_append] at hi ⊢; rcases hi with h | h; exact .inl (.inr h); exact .inr (.inr h))]
  | z :: zs, p :: ps, qs, x, s, h, hs => by
    simp only [movCs] at h ⊢
    split at h <;> first | (cases h; done) | skip
    rename_i a x1 s1 h1
    split at h <;> cases h
    rename_i b y t h2
    rw [movC_local h1 (hs.sub fun i hi => by simp only [List.mem_append] at hi ⊢; rcases hi with h | h; exact .inl (.inl h); exact .inr (.inl h))]
    simp only
    rw [movCs_local h2 (hs.sub fun i hi => by simp only [List.mem_append] at hi ⊢; rcases hi with h | h; exact .inl (.inr h); exact .inr (.inr h))]
theorem arg1_local {m : Mode} {p : PV} {A : Arg} (h : arg1 H m p = some A) (hs : Same H H' (A.gone ++ A.seen ++ A.lent)) : arg1 H' m p = some A := by
  cases m with
  | shut =>
    simp only [arg1] at h ⊢
    obtain ⟨⟨a, x⟩, h1, h2⟩ := map_some h
    subst h2
    rw [clo_local h1 (hs.sub fun i hi => by simp [hi])]; rfl
  | move esz =>
    simp only [arg1] at h ⊢
    obtain ⟨⟨a, x⟩, h1, h2⟩ := map_some h
    subst h2
    rw [mov1_local h1 (hs.sub fun i hi => by simp [hi])]; rfl
  | lend szs =>
    cases p with
    | ptr id j =>
      cases j with
      | succ j => cases h
      | zero =>
        simp only [arg1] at h ⊢
        split at h <;> first | (cases h; done) | skip
        rename_i cells hg
        obtain ⟨⟨a, x, s⟩, h1, h2⟩ := map_some h
        subst h2
        rw [hs id (by simp), hg]
        simp only
        rw [movCs_local h1 (hs.sub fun i hi => by simp only [List.mem_append] at hi ⊢; rcases hi with h | h; exact .inl (.inl h); exact .inl (.inr h))]; rfl
    | _ => cases h
theorem args1_local {ρ : Opd → PV} : ∀ {as : List (Mode × Opd)} {A : Args}, args1 H ρ as = some A → Same H H' (A.gone ++ A.seen ++ A.lent) → args1 H' ρ as = some A
  | [], A, h, _ => h
  | (m, x) :: as, A, h, hs => by
    simp only [args1] at h ⊢
    split at h <;> first | (cases h; done) | skip
    rename_i a ha
    split at h <;> cases h
    rename_i b hb
    rw [arg1_local ha (hs.sub fun i hi => by simp only [List.mem_append] at hi ⊢; rcases hi with (h | h) | h; exact .inl (.inl (.inl h)); exact .inl (.inr (.inl h)); exact .inr (.inl h))]
    simp only
    rw [args1_local hb (hs.sub fun i hi => by simp only [List.mem_append] at hi ⊢; rcases hi with (h | h) | h; exact .inl (.inl (.inr h)); exact .inl (.inr (.inr h)); exact .inr (.inr h))]
theorem keys_filter {l : List (Nat × Blk)} {f : Nat × Blk → Bool} {j : Nat} (h : j ∈ keys (l.filter f)) : j ∈ keys l := by
  obtain ⟨c, hc⟩ := keys_mem.1 h
  exact keys_mem.2 ⟨c, (List.mem_filter.1 hc).1⟩
theorem frz_local {seen : List Nat} {r : PV} {ios : List (List PV)} {fr : List (Nat × Blk)} (h : frz H seen r ios = some fr) (hs : Same H H' seen) : frz H' seen r ios = some fr := by
  unfold frz at h ⊢
  split at h
  · exact h
  · exact frees_local h hs
theorem back_local {A : Args} {hints : List (Nat × Nat)} {base : Nat} {r : PV} {ios : List (List PV)} {e : Eff} (h : back H A hints base r ios = some e) (hs : Same H H' (e.rd ++ keys e.upd)) :
    back H' A hints base r ios = some e ∧ e.rd = A.gone ++ A.seen ++ A.lent := by
  unfold back at h ⊢
  split at h <;> first | (cases h; done) | skip
  rename_i c1 c2 c3 c4 c5
  split at h <;> first | (cases h; done) | skip
  rename_i fr hfr
  simp only at h
  split at h <;> first | (cases h; done) | skip
  rename_i hnew
  cases h
  simp only at hs ⊢
  have h5 : hasAll H' (A.gone ++ A.lent ++ A.seen) = true := hasAll_local c5 (hs.sub fun i hi => by simp only [List.mem_append] at hi ⊢; rcases hi with (h | h) | h; exact .inl (.inl (.inl h)); exact .inl (.inr h); exact .inl (.inl (.inr h)))
  have h6 := frz_local hfr (hs.sub fun i hi => by simp only [List.mem_append]; exact .inl (.inl (.inr hi)))
  have h7 := newIds_local hnew (hs.sub fun i hi => by
    rw [keys_append] at hi
    simp only [keys_append, List.mem_append] at hi ⊢
    rcases hi with h | h
    · exact .inr (.inl (.inr h))
    · exact .inr (.inr (keys_filter h)))
  rw [c1, c2, c3, c4, h5]
  simp only
  rw [h6]
  simp only
  rw [h7]
  exact ⟨rfl, trivial⟩
end
end Go.Ev
namespace Go.Ev
open Go
set_option linter.unusedSectionVars false
set_option linter.unusedSimpArgs false
set_option linter.unusedVariables false
variable [Frame]
section
variable {cx : Cx} {env : Env} {H H' : Heap}
theorem validO_local {id cl : Nat} (h : validO H id cl = true) (hs : hget H' id = hget H id) : validO H' id cl = true := by
  unfold validO at h ⊢
  rw [hs]; exact h
theorem evCall_local {f : FuncId} {A : Args} {pre post : List PV} {hints : List (Nat × Nat)} {base : Nat} {e : Eff} (h : evCall cx H f A pre post hints base = some e) (hs : Same H H' (e.rd ++ keys e.upd)) :
    evCall cx H' f A pre post hints base = some e ∧ e.rd = A.gone ++ A.seen ++ A.lent := by
  unfold evCall at h ⊢
  split at h <;> first | (cases h; done) | skip
  exact back_local h hs
theorem rowsOf_nil {esz : Nat} {ps : List PV} {x : List Nat} (h : rowsOf H esz ps = some ([], x)) : x = [] := by
  cases ps with
  | nil => simp only [rowsOf] at h; cases h; rfl
  | cons p ps =>
    simp only [rowsOf] at h
    split at h <;> first | (cases h; done) | skip
    split at h <;> cases h
theorem evOp_heap {op : IOp} {e : Eff} (h : evOp cx env H op = some e) (hs : Same H H' (e.rd ++ keys e.upd)) : evOp cx env H' op = some e := by
  have one : ∀ {id : Nat} {rd : List Nat} {u : List (Nat × Blk)}, Same H H' (rd ++ keys u) → (id ∈ rd ∨ id ∈ keys u) → hget H' id = hget H id := fun hs h => hs _ (List.mem_append.2 h)
  cases op with
  | call f as hints base =>
    simp only [evOp] at h ⊢
    split at h <;> first | (cases h; done) | skip
    rename_i A hA
    obtain ⟨h1, h2⟩ := evCall_local h hs
    rw [args1_local hA (hs.left.sub fun i hi => by rw [h2]; exact hi)]
    exact h1
  | alloc id z =>
    simp only [evOp] at h ⊢
    split at h <;> cases h
    rename_i hid
    rw [one hs (.inr (.head _)), hid]
  | box id x =>
    simp only [evOp] at h ⊢
    split at h <;> cases h
    rename_i hid hc
    rw [one hs (.inr (.head _)), hid, hc]
  | load sz agg a =>
    simp only [evOp] at h ⊢
    split at h <;> first | (cases h; done) | skip
    · split at h <;> first | (cases h; done) | skip
      rename_i hg
      split at h <;> cases h
      rename_i hr
      rw [one hs (.inl (.head _)), hg]
      simp only; rw [hr]
    · split at h <;> first | (cases h; done) | skip
      all_goals
        rename_i hg
        split at h <;> first | (cases h; done) | skip
        rename_i h1 h2
        split at h <;> cases h
        rename_i hr
        rw [one hs (.inl (.head _)), hg]
        simp only; rw [h1, h2]; simp only; rw [hr]
    · exact h
  | nilchk x =>
    simp only [evOp] at h ⊢
    split at h <;> first | (cases h; done) | skip
    · exact h
    · split at h <;> cases h
      rename_i hv
      rw [validO_local hv (one hs (.inl (.head _)))]
    · exact h
    · exact h
    · exact h
  | faddr off x =>
    simp only [evOp] at h ⊢
    split at h <;> first | (cases h; done) | skip
    · exact h
    · split at h <;> cases h
      rename_i hv
      rw [validO_local hv (one hs (.inl (.head _)))]
    all_goals exact h
  | len x =>
    simp only [evOp] at h ⊢
    split at h <;> first | (cases h; done) | skip
    · exact h
    · split at h <;> cases h
      rename_i hv
      rw [validO_local hv (one hs (.inl (.head _)))]
    all_goals exact h
  | isnl neg x =>
    simp only [evOp] at h ⊢
    split at h <;> first | (cases h; done) | exact h | skip
    split at h <;> cases h
    rename_i hv
    rw [validO_local hv (one hs (.inl (.head _)))]
  | callv x as hints base =>
    simp only [evOp] at h ⊢
    split at h <;> first | (cases h; done) | skip
    rename_i f cs y A hf hA
    obtain ⟨h1, h2⟩ := evCall_local h hs
    rw [clo2_local hf (hs.left.sub fun i hi => by rw [h2]; simp [hi]), args1_local hA (hs.left.sub fun i hi => by
      rw [h2]
      simp only [List.mem_append] at hi ⊢
      rcases hi with (h | h) | h
      · exact .inl (.inl h)
      · exact .inl (.inr (.inr h))
      · exact .inr h)]
    exact h1
  | inv x tab as hints base =>
    simp only [evOp] at h ⊢
    split at h <;> first | (cases h; done) | skip
    rename_i t v y A hf hA
    split at h <;> first | (cases h; done) | skip
    rename_i f hl
    obtain ⟨h1, h2⟩ := evCall_local h hs
    rw [clo2_local hf (hs.left.sub fun i hi => by rw [h2]; simp [hi]), args1_local hA (hs.left.sub fun i hi => by
      rw [h2]
      simp only [List.mem_append] at hi ⊢
      rcases hi with (h | h) | h
      · exact .inl (.inl h)
      · exact .inl (.inr (.inr h))
      · exact .inr h)]
    simp only
    rw [hl]
    exact h1
  | bslice id esz ps =>
    simp only [evOp] at h ⊢
    split at h <;> first | (cases h; done) | skip
    rename_i rows x hid hr
    split at h <;> first | (cases h; done) | skip
    rename_i fr hfr
    split at h
    · cases h
      have hx : x = [] := rowsOf_nil hr
      subst hx
      rw [one hs (.inl (.head _)), hid, rowsOf_local hr (fun i hi => by cases hi)]
      simp only
      rw [frees_local hfr (fun i hi => by cases hi)]
    · cases h
      rw [one hs (.inr (.head _)), hid, rowsOf_local hr hs.left]
      simp only
      rw [frees_local hfr hs.left]
  | store sz a x =>
    simp only [evOp] at h ⊢
    split at h <;> first | (cases h; done) | skip
    · split at h <;> first | (cases h; done) | skip
      rename_i hg
      split at h <;> first | (cases h; done) | skip
      rename_i hc
      split at h <;> cases h
      rename_i h1 h2
      rw [one hs (.inr (.head _)), hg]
      simp only
      rw [h1, h2]
    · split at h <;> first | (cases h; done) | skip
      rename_i hg
      split at h <;> first | (cases h; done) | skip
      rename_i h1 h2 h3
      split at h <;> cases h
      rename_i h4 h5 h6 h7
      rw [one hs (.inr (.head _)), hg]
      simp only
      rw [h1, h2, rowOf_local h3 hs.left]
      simp only
      rw [frees_local h4 hs.left, h5, h6, h7]
  | mksl id esb z l c =>
    simp only [evOp] at h ⊢
    split at h <;> first | (cases h; done) | skip
    rename_i hid
    split at h
    · split at h <;> first | (cases h; done) | skip
      split at h <;> cases h
      rw [one hs (.inr (.head _)), hid]
      simp_all
    · split at h <;> first | (cases h; done) | skip
      split at h <;> cases h
      rw [one hs (.inl (.head _)), hid]
      simp_all
  | rng id x =>
    simp only [evOp] at h ⊢
    split at h <;> cases h
    rename_i hx hid
    rw [one hs (.inr (.head _)), hid, hx]
  | toStr x =>
    simp only [evOp] at h ⊢
    split at h <;> first | (cases h; done) | skip
    rename_i rows ids hq hr
    split at h <;> cases h
    rename_i hb
    rw [rowsIn_local hr hs.left, hq]
    simp only; rw [hb]
  | mov x => exact h
  | pick c a b => exact h
  | build z ps => exact h
  | bin o x y => exact h
  | eq n a ks x y => exact h
  | eqn n x => exact h
  | un o x => exact h
  | toInt k x => exact h
  | same x => exact h
  | toBytes x => exact h
  | mkf f xs => exact h
  | mki t x => exact h
  | slcS x lo hi => exact h
  | field o z a x => exact h
  | idxA n z a x y => exact h
  | idxS x y => exact h
  | ext x i => exact h
  | lenS x => exact h
  | lenA n x => exact h
  | least xs => exact h
  | most xs => exact h
  | tas t c z x => exact h
  | stop => exact h
  | nxt x =>
    simp only [evOp] at h ⊢
    split at h <;> first | (cases h; done) | skip
    split at h <;> first | (cases h; done) | skip
    rename_i hg
    split at h <;> cases h
    · rename_i hlt
      rw [one hs (.inr (.head _)), hg]
      simp only; rw [if_pos hlt]
    · rename_i hlt
      rw [one hs (.inl (.head _)), hg]
      simp only; rw [if_neg hlt]
  | iaddrA n esz x ix =>
    simp only [evOp] at h ⊢
    split at h <;> first | (cases h; done) | skip
    · exact h
    · split at h <;> first | (cases h; done) | skip
      rename_i h1
      split at h <;> first | (cases h; done) | skip
      rename_i h2
      split at h <;> cases h
      rename_i hv
      rw [if_pos h1, if_pos h2, validO_local hv (one hs (.inl (.head _)))]
    · exact h
  | iaddr esz x ix =>
    simp only [evOp] at h ⊢
    split at h <;> first | (cases h; done) | skip
    · exact h
    · split at h <;> first | (cases h; done) | skip
      rename_i h1
      split at h <;> first | (cases h; done) | skip
      rename_i h2
      rw [if_pos h1, if_pos h2]
      split at h <;> first | (cases h; done) | skip
      all_goals
        rename_i hg
        split at h <;> cases h
        rename_i h3 h4
        rw [one hs (.inl (.head _)), hg]
        simp only; rw [h3, h4]
  | clear esz z x =>
    simp only [evOp] at h ⊢
    split at h <;> first | (cases h; done) | skip
    · exact h
    · split at h <;> first | (cases h; done) | skip
      rename_i hg
      split at h <;> cases h
      rename_i hb
      rw [one hs (.inr (.head _)), hg]
      simp only; rw [hb]
  | copy esz x y =>
    simp only [evOp] at h ⊢
    split at h <;> first | (cases h; done) | skip
    rename_i new ids hn
    split at h <;> first | (cases h; done) | skip
    · split at h <;> cases h
      rename_i hz
      rw [rowsIn_local hn hs.left]
      simp only; rw [hz]
    · split at h <;> first | (cases h; done) | skip
      rename_i hg
      split at h <;> cases h
      rename_i hb
      rw [rowsIn_local hn hs.left]
      simp only
      rw [one hs (.inr (.head _)), hg]
      simp only; rw [hb]
  | app id esz esb x y =>
    simp only [evOp] at h ⊢
    split at h <;> first | (cases h; done) | skip
    rename_i new ids hn
    split at h <;> first | (cases h; done) | skip
    · split at h
      · cases h
        rw [rowsIn_local hn hs.left]
      · split at h <;> first | (cases h; done) | skip
        rename_i h1
        split at h <;> cases h
        rename_i h2 h3
        rw [rowsIn_local hn hs.left]
        simp only
        rw [if_pos h1, one hs (.inr (.head _)), h2, h3]
    · split at h <;> cases h
      rw [rowsIn_local hn hs.left]
    · split at h <;> first | (cases h; done) | skip
      rename_i hg
      split at h <;> first | (cases h; done) | skip
      rename_i hb
      split at h
      · rename_i h1
        cases h
        rw [rowsIn_local hn hs.left]
        simp only
        rw [one hs (.inr (.head _)), hg]
        simp only; rw [hb]
        simp only; rw [if_pos h1]
      · rename_i h1
        split at h <;> first | (cases h; done) | skip
        rename_i h2 h3
        split at h <;> cases h
        rename_i h4
        rw [rowsIn_local hn hs.left]
        simp only
        rw [one hs (.inr (.head _)), hg]
        simp only; rw [hb]
        simp only; rw [if_neg h1, if_pos h4]
  | slc esz x lo hi mx =>
    simp only [evOp] at h ⊢
    split at h <;> first | (cases h; done) | skip
    · exact h
    · exact h
    · rename_i id off len cl hx
      have hid : id ∈ e.rd := by
        split at h <;> first | (cases h; done) | skip
        all_goals
          split at h <;> first | (cases h; done) | skip
          split at h <;> first | (cases h; done) | skip
          split at h <;> first | (cases h; done) | skip
          split at h
          · cases h; exact .head _
          · split at h <;> cases h <;> exact .head _
      rw [one hs (.inl hid)]
      exact h
end
end Go.Ev
namespace Go.Ev
open Go
set_option linter.unusedSectionVars false
set_option linter.unusedSimpArgs false
set_option linter.unusedVariables false
variable [Frame]
def evE (cx : Cx) (o : Opn) (env : Env) (H : Heap) : Option Eff :=
  match wants env o.guard with
  | some true => evOp cx env H o.op
  | some false => some ⟨.undef, [], []⟩
  | none => none
def tmpsG (o : Opn) : List Nat := (match o.guard with | some (g, _) => [g] | none => []) ++ tmpsOp o.op
theorem getT_put {env : Env} {d : Option Nat} {v : PV} (t : Nat) : getT (put env d v) t = if d = some t then v else getT env t := by
  cases d with
  | none => simp [put]
  | some d =>
    simp only [put, getT]
    cases hb : Nat.beq d t with
    | true => have := nbeq_iff.1 hb; subst this; simp
    | false => have := nbeq_false hb; simp [this]
section
variable {cx : Cx} {env env' : Env} {H H' : Heap}
theorem wants_same {g : Option (Nat × Bool)} (h : SameT env env' (match g with | some (g, _) => [g] | none => [])) : wants env' g = wants env g := by
  cases g with
  | none => rfl
  | some p => obtain ⟨t, b⟩ := p; simp only [wants]; rw [h t (.head _)]
theorem evE_local {o : Opn} {e : Eff} (h : evE cx o env H = some e) (ht : SameT env env' (tmpsG o)) (hs : Same H H' (e.rd ++ keys e.upd)) : evE cx o env' H' = some e := by
  unfold evE at h ⊢
  rw [wants_same ht.left]
  split at h <;> first | (cases h; done) | skip
  · exact evOp_heap (by rw [evOp_env ht.right]; exact h) hs
  · exact h
theorem hget_out {u : List (Nat × Blk)} {i : Nat} (h : i ∉ keys u) : hget (hsets u H) i = hget H i := by
  rw [hget_last]
  cases hl : lastOf u i with
  | none => rfl
  | some c => exact absurd (keys_mem.2 ⟨c, lastOf_mem hl⟩) h
theorem hget_in {u : List (Nat × Blk)} {i : Nat} (h : i ∈ keys u) : hget (hsets u H) i = hget (hsets u H') i := by
  rw [hget_last, hget_last]
  cases hl : lastOf u i with
  | none => obtain ⟨c, hc⟩ := keys_mem.1 h; exact absurd rfl (lastOf_none hl _ hc)
  | some c => rfl
theorem evE_swap {o1 o2 : Opn} {e1 e2 : Eff} (h1 : evE cx o1 env H = some e1) (h2 : evE cx o2 (put env o1.dst e1.v) (hsets e1.upd H) = some e2)
    (t1 : ∀ t, o1.dst = some t → t ∉ tmpsG o2) (t2 : ∀ t, o2.dst = some t → t ∉ tmpsG o1) (td : ∀ t, o1.dst = some t → o2.dst ≠ some t)
    (a1 : ∀ i ∈ keys e1.upd, i ∉ e2.rd ∧ i ∉ keys e2.upd) (a2 : ∀ i ∈ keys e2.upd, i ∉ e1.rd) :
    evE cx o2 env H = some e2 ∧ evE cx o1 (put env o2.dst e2.v) (hsets e2.upd H) = some e1 ∧
      (∀ t, getT (put (put env o1.dst e1.v) o2.dst e2.v) t = getT (put (put env o2.dst e2.v) o1.dst e1.v) t) ∧ (∀ i, hget (hsets e2.upd (hsets e1.upd H)) i = hget (hsets e1.upd (hsets e2.upd H)) i) := by
  refine ⟨evE_local h2 (fun t ht => ?_) (fun i hi => ?_), evE_local h1 (fun t ht => ?_) (fun i hi => ?_), fun t => ?_, fun i => ?_⟩
  · rw [getT_put, if_neg (fun e => t1 t e ht)]
  · refine (hget_out fun h => ?_).symm
    rcases List.mem_append.1 hi with h' | h'
    · exact (a1 i h).1 h'
    · exact (a1 i h).2 h'
  · rw [getT_put, if_neg (fun e => t2 t e ht)]
  · refine hget_out fun h => ?_
    rcases List.mem_append.1 hi with h' | h'
    · exact a2 i h h'
    · exact (a1 i h').2 h
  · simp only [getT_put]
    by_cases h1 : o1.dst = some t
    · rw [if_neg (td t h1), if_pos h1, if_pos h1]
    · by_cases h2 : o2.dst = some t
      · rw [if_pos h2, if_neg h1, if_pos h2]
      · rw [if_neg h2, if_neg h1, if_neg h1, if_neg h2]
  · by_cases k1 : i ∈ keys e1.upd
    · rw [hget_out (a1 i k1).2]
      exact hget_in k1
    · rw [hget_out (u := e1.upd) k1]
      by_cases k2 : i ∈ keys e2.upd
      · exact hget_in k2
      · rw [hget_out k2, hget_out k2, hget_out k1]
end
end Go.Ev
namespace Go.Ev
open Go
set_option linter.unusedSectionVars false
set_option linter.unusedSimpArgs false
set_option linter.unusedVariables false
variable [Frame]
structure Inv (cx : Cx) (gs : List Nat) (N : Nat) (w0 : World) (K : Nat → Prop) (w : World) (R : Refs) (H : Heap) (env : Env) (a : Act) : Prop where
  heap : HRel w R H
  env : ERel w R H env a.tmps
  glob : GlobOK cx gs w (Xof H R)
  size : N ≤ a.tmps.size
  calm : a.defers = []
  grow : Grow w0 K w
  own : ∀ k, k < w0.heap.size → Own H R k → K k
section
variable {P : Program} {cx : Cx} {gs : List Nat} {N : Nat} {w0 w : World} {K : Nat → Prop} {R : Refs} {H : Heap} {env : Env} {a : Act}
theorem Inv.step (hI : Inv cx gs N w0 K w R H env a) {e : Eff} {v : Value} {w' : World} {R' : Refs} (hp : Post w R H e v w' R') {d : Option Nat} (hd : ∀ t, d = some t → t < N) :
    Inv cx gs N w0 K w' R' (hsets e.upd H) (put env d e.v) (a.put d v) := by
  have hsz : (a.put d v).tmps.size = a.tmps.size := by cases d <;> simp [Act.put]
  refine ⟨hp.heap, fun t => ?_, fun g hg => (hI.glob g hg).mono hp.grow.weak hp.out (RExt.no _), by rw [hsz]; exact hI.size, ?_, ?_, ?_⟩
  · rw [getT_put]
    by_cases h : d = some t
    · subst h
      rw [if_pos rfl]
      have ht : t < a.tmps.size := Nat.lt_of_lt_of_le (hd t rfl) hI.size
      have : (a.put (some t) v).tmps.getD t undef = v := by simp [Act.put, Array.getD, ht]
      rw [this]; exact hp.val
    · rw [if_neg h]
      have : (a.put d v).tmps.getD t undef = a.tmps.getD t undef := by
        cases d with
        | none => rfl
        | some d =>
          have hne : d ≠ t := fun e => h (by rw [e])
          simp [Act.put, Array.getD_eq_getD_getElem?, Array.getElem?_setIfInBounds, hne]
      rw [this]
      exact (hI.env t).mono hp.grow.weak hp.out hp.ext
  · cases d <;> simp [Act.put, hI.calm]
  · exact hI.grow.trans hp.grow fun k hk hn ho => hn (hI.own k hk ho)
  · intro k hk ho
    have hlt : k < w.heap.size := Nat.lt_of_lt_of_le hk hI.grow.size
    rcases Classical.em (Xof H R k) with h | h
    · rcases h with h | h
      · obtain ⟨i, b, r, o, h1, h2, h3, h4⟩ := ho
        exact (hp.heap.off i b r k o h1 (live_dead h2) h3 h4 h).elim
      · exact hI.own k hk h
    · exact (hp.out k hlt h (.inr ho)).elim
theorem Inv.skip (hI : Inv cx gs N w0 K w R H env a) {d : Option Nat} (hd : ∀ t, d = some t → t < N) : Inv cx gs N w0 K w R H (put env d .undef) (a.put d undef) :=
  hI.step (e := ⟨.undef, [], []⟩) (Post.pure hI.heap (.undef _)) hd
theorem Inv.congr (hI : Inv cx gs N w0 K w R H env a) {H' : Heap} {env' : Env} (hH : ∀ i, hget H i = hget H' i) (he : ∀ t, getT env t = getT env' t) : Inv cx gs N w0 K w R H' env' a := by
  have hX := fun k => Xof_congr (R := R) hH k
  refine ⟨hI.heap.congr hH, fun t => ?_, fun g hg => ?_, hI.size, hI.calm, hI.grow, fun k hk ho => hI.own k hk ?_⟩
  · rw [← he t]
    exact (hI.env t).mono (Grow.refl w _) (fun k _ hn hx => hn ((hX k).2 hx)) (RExt.refl _)
  · exact (hI.glob g hg).mono (Grow.refl w _) (fun k _ hn hx => hn ((hX k).2 hx)) (RExt.refl _)
  · obtain ⟨i, b, r, o, h1, rest⟩ := ho
    exact ⟨i, b, r, o, by rw [hH]; exact h1, rest⟩
def mGuard (ops : Array Oper) (g : Option (Nat × Bool)) (g' : Option (Nat × Bool)) : Bool :=
  match g, g' with
  | none, none => true
  | some (j, b), some (t, b') => match (ops[j]?).bind (·.dst) with
    | some d => Nat.beq d t && (b == b')
    | none => false
  | _, _ => false
def mDst (N : Nat) (d d' : Option Nat) : Bool :=
  match d, d' with
  | none, none => true
  | some t, some t' => Nat.beq t t' && Nat.blt t N
  | _, _ => false
def mOne (P : Program) (gs : List Nat) (N : Nat) (ops : Array Oper) (o : Oper) (q : Opn) : Bool :=
  mGuard ops o.guard q.guard && mDst N o.dst q.dst && mOp P gs o q.op
def mAll (P : Program) (gs : List Nat) (N : Nat) (ops : Array Oper) : List Oper → List Opn → Bool
  | [], [] => true
  | o :: r, q :: s => mOne P gs N ops o q && mAll P gs N ops r s
  | _, _ => false
theorem mAll_get {ops : Array Oper} : ∀ {l : List Oper} {os : List Opn}, mAll P gs N ops l os = true → l.length = os.length ∧ ∀ (i : Nat) o q, l[i]? = some o → os[i]? = some q → mOne P gs N ops o q = true
  | [], [], _ => ⟨rfl, fun i o q h => by simp at h⟩
  | [], _ :: _, h => by simp [mAll] at h
  | _ :: _, [], h => by simp [mAll] at h
  | o :: l, q :: os, h => by
    simp only [mAll, Bool.and_eq_true] at h
    obtain ⟨h1, h2⟩ := mAll_get h.2
    refine ⟨by simp [h1], fun i o' q' ho hq => ?_⟩
    cases i with
    | zero => simp at ho hq; subst ho; subst hq; exact h.1
    | succ i => simp at ho hq; exact h2 i o' q' ho hq
def evOne (cx : Cx) (o : Opn) (env : Env) (H : Heap) : Option (Env × Heap) :=
  match wants env o.guard with
  | some true => match evOp cx env H o.op with
    | some e => some (put env o.dst e.v, hsets e.upd H)
    | none => none
  | some false => some (put env o.dst .undef, H)
  | none => none
theorem wants_spec (hE : ERel w R H env a.tmps) {ops : Array Oper} {o : Oper} {g : Option (Nat × Bool)} {b : Bool} (hg : mGuard ops o.guard g = true) (hw : wants env g = some b) :
    Region.wanted o (yielded ops a.tmps) = b := by
  unfold mGuard at hg
  split at hg <;> first | (cases hg; done) | skip
  · rename_i h1
    simp only [wants] at hw
    cases hw
    simp [Region.wanted, h1]
  · rename_i j b0 t b' h1
    split at hg <;> first | (cases hg; done) | skip
    rename_i d hd
    simp only [Bool.and_eq_true, beq_iff_eq] at hg
    have hdt := nbeq_iff.1 hg.1
    have hbb := hg.2
    subst hdt; subst hbb
    have hr := hE d
    have hy : yielded ops a.tmps j = match a.tmps[d]? with | some (.bool b) => some b | _ => none := by
      unfold yielded
      rw [hd, Option.bind_some]
      cases a.tmps[d]? with
      | none => rfl
      | some v => cases v <;> rfl
    simp only [wants] at hw
    simp only [Region.wanted, h1, hy]
    split at hw <;> first | (cases hw; done) | skip
    · rename_i bb hbv
      rw [hbv] at hr
      generalize hu : a.tmps.getD d undef = u at hr
      cases hr
      have hget : a.tmps[d]? = some (.bool bb) := by
        rw [Array.getD_eq_getD_getElem?] at hu
        cases h : a.tmps[d]? with
        | none => rw [h] at hu; cases hu
        | some x => rw [h] at hu; simp at hu; rw [hu]
      rw [hget]
      cases b0 <;> cases bb <;> simp_all
    · rename_i hbv
      cases hw
      rw [hbv] at hr
      generalize hu : a.tmps.getD d undef = u at hr
      cases hr
      rw [Array.getD_eq_getD_getElem?] at hu
      cases h : a.tmps[d]? with
      | none => simp
      | some x =>
        rw [h] at hu
        simp at hu
        subst hu
        simp [undef]
theorem mDst_spec {d d' : Option Nat} (h : mDst N d d' = true) : d = d' ∧ ∀ t, d = some t → t < N := by
  unfold mDst at h
  split at h <;> first | (cases h; done) | skip
  · exact ⟨rfl, fun t h => by cases h⟩
  · simp only [Bool.and_eq_true] at h
    have := nbeq_iff.1 h.1
    subst this
    exact ⟨rfl, fun t h' => by cases h'; exact blt_iff.1 h.2⟩
theorem one_ok (hcall : ∀ f, FnOK P cx.glob gs cx.call f) {ops : Array Oper} {o : Oper} {q : Opn} {i : Nat} (ho : ops[i]? = some o) (hm : mOne P gs N ops o q = true)
    (hI : Inv cx gs N w0 K w R H env a) {env' : Env} {H' : Heap} (he : evOne cx q env H = some (env', H')) {next : Act → World → Prop} {Q : Exit → Act → World → Prop}
    (hn : ∀ a' w' R', Inv cx gs N w0 K w' R' H' env' a' → next a' w') : wpOp P ops Q i next a w := by
  simp only [mOne, Bool.and_eq_true] at hm
  obtain ⟨⟨m1, m2⟩, m3⟩ := hm
  obtain ⟨d1, d2⟩ := mDst_spec m2
  unfold evOne at he
  unfold wpOp
  rw [ho]
  simp only
  split at he <;> first | (cases he; done) | skip
  · rename_i hw
    rw [wants_spec hI.env m1 hw, if_pos rfl]
    split at he <;> cases he
    rename_i e hev
    refine .inl ?_
    unfold Oper.wp
    refine mOp_ok hI.heap hI.env hI.glob hcall m3 hev next Q fun v w' R' hp => hn _ w' R' ?_
    rw [← d1]
    exact hI.step hp d2
  · rename_i hw
    rw [wants_spec hI.env m1 hw]
    cases he
    simp only [Bool.false_eq_true, if_false]
    refine hn _ w R ?_
    rw [← d1]
    exact hI.skip d2
theorem ops_ok (hcall : ∀ f, FnOK P cx.glob gs cx.call f) {ops : Array Oper} {Q : Exit → Act → World → Prop} : ∀ {os : List Opn} {l : List Oper} (n : Nat), (∀ (j : Nat) o, l[j]? = some o → ops[n + j]? = some o) → mAll P gs N ops l os = true →
    ∀ {w : World} {R : Refs} {H : Heap} {env : Env} {a : Act}, Inv cx gs N w0 K w R H env a → ∀ {env' : Env} {H' : Heap}, evOps cx os env H = some (env', H') →
    (∀ a' w' R', Inv cx gs N w0 K w' R' H' env' a' → Q .normal a' w') → wpOps P ops Q (List.range' n os.length) a w
  | [], l, n, _, _, w, R, H, env, a, hI, env', H', he, hQ => by
    simp only [evOps] at he
    cases he
    exact hQ a w R hI
  | q :: os, [], n, _, hm, _, _, _, _, _, _, _, _, _, _ => by simp [mAll] at hm
  | q :: os, o :: l, n, hl, hm, w, R, H, env, a, hI, env', H', he, hQ => by
    simp only [mAll, Bool.and_eq_true] at hm
    have hone : ∃ env1 H1, evOne cx q env H = some (env1, H1) ∧ evOps cx os env1 H1 = some (env', H') := by
      simp only [evOps] at he
      unfold evOne
      split at he <;> first | (cases he; done) | skip
      rename_i b hb
      split at he
      · rw [hb]
        split at he <;> first | (cases he; done) | skip
        rename_i e hev
        exact ⟨_, _, by simp [hev], he⟩
      · rw [hb]
        exact ⟨_, _, rfl, he⟩
    obtain ⟨env1, H1, h1, h2⟩ := hone
    rw [List.length_cons, List.range'_succ, wpOps_cons]
    refine one_ok hcall (hl 0 o rfl) hm.1 hI h1 fun a' w' R' hI' => ?_
    exact ops_ok hcall (n + 1) (fun j o' hj => by
      have := hl (j + 1) o' (by simpa using hj)
      rwa [show n + 1 + j = n + (j + 1) by omega]) hm.2 hI' h2 hQ
theorem region_ok (hcall : ∀ f, FnOK P cx.glob gs cx.call f) {ops : Array Oper} {id : Nat} {os : List Opn} (hm : mAll P gs N ops ops.toList os = true) (hI : Inv cx gs N w0 K w R H env a) {env' : Env} {H' : Heap}
    (he : evOps cx os env H = some (env', H')) {Q : Exit → Act → World → Prop} (hQ : ∀ a' w' R', Inv cx gs N w0 K w' R' H' env' a' → Q .normal a' w') : (Code.region id ops false).wp P Q a w := by
  refine wp_region ?_
  have := ops_ok hcall (Q := Q) 0 (fun j o hj => by simpa using hj) hm hI he hQ
  rw [← (mAll_get hm).1, Array.length_toList] at this
  rwa [List.range_eq_range']
end
end Go.Ev
namespace Go.Ev
open Go
set_option linter.unusedSectionVars false
set_option linter.unusedSimpArgs false
set_option linter.unusedVariables false
variable [Frame]
inductive Runs (cx : Cx) (os : List Opn) (L : Nat → Eff) : List Nat → Env → Heap → Env → Heap → Prop
  | nil (env : Env) (H : Heap) : Runs cx os L [] env H env H
  | cons (i : Nat) (l : List Nat) (o : Opn) (env : Env) (H : Heap) (env' : Env) (H' : Heap) (ho : os[i]? = some o) (he : evE cx o env H = some (L i)) (hr : Runs cx os L l (put env o.dst (L i).v) (hsets (L i).upd H) env' H') :
      Runs cx os L (i :: l) env H env' H'
section
variable {cx : Cx} {os : List Opn} {L : Nat → Eff}
theorem Runs.congr : ∀ {l : List Nat} {env H env' H' env1 H1}, Runs cx os L l env H env' H' → (∀ t, getT env1 t = getT env t) → (∀ i, hget H1 i = hget H i) →
    ∃ env2 H2, Runs cx os L l env1 H1 env2 H2 ∧ (∀ t, getT env2 t = getT env' t) ∧ (∀ i, hget H2 i = hget H' i)
  | [], _, _, _, _, env1, H1, h, h1, h2 => by cases h; exact ⟨env1, H1, .nil _ _, h1, h2⟩
  | i :: l, env, H, env', H', env1, H1, h, h1, h2 => by
    cases h with
    | cons _ _ o _ _ _ _ ho he hr =>
      obtain ⟨env2, H2, r1, r2, r3⟩ := hr.congr (env1 := put env1 o.dst (L i).v) (H1 := hsets (L i).upd H1) (fun t => by rw [getT_put, getT_put, h1]) (hget_congr_hsets _ h2)
      exact ⟨env2, H2, .cons i l o _ _ _ _ ho (evE_local he (fun t _ => h1 t) (fun j _ => h2 j)) r1, r2, r3⟩
def Apart (os : List Opn) (L : Nat → Eff) (j i : Nat) : Prop :=
  ∀ o1 o2, os[j]? = some o1 → os[i]? = some o2 → (∀ t, o1.dst = some t → t ∉ tmpsG o2) ∧ (∀ t, o2.dst = some t → t ∉ tmpsG o1) ∧ (∀ t, o1.dst = some t → o2.dst ≠ some t) ∧
    (∀ k ∈ keys (L j).upd, k ∉ (L i).rd ∧ k ∉ keys (L i).upd) ∧ (∀ k ∈ keys (L i).upd, k ∉ (L j).rd)
theorem Runs.front : ∀ {p : List Nat} {i : Nat} {q : List Nat} {env H env' H'}, Runs cx os L (p ++ i :: q) env H env' H' → (∀ j ∈ p, Apart os L j i) →
    ∃ o env2 H2, os[i]? = some o ∧ evE cx o env H = some (L i) ∧ Runs cx os L (p ++ q) (put env o.dst (L i).v) (hsets (L i).upd H) env2 H2 ∧ (∀ t, getT env2 t = getT env' t) ∧ (∀ k, hget H2 k = hget H' k)
  | [], i, q, env, H, env', H', h, _ => by
    cases h with
    | cons _ _ o _ _ _ _ ho he hr => exact ⟨o, env', H', ho, he, hr, fun _ => rfl, fun _ => rfl⟩
  | j :: p, i, q, env, H, env', H', h, ha => by
    cases h with
    | cons _ _ o1 _ _ _ _ ho1 he1 hr =>
      obtain ⟨o2, env2, H2, ho2, he2, hr2, r1, r2⟩ := Runs.front hr fun k hk => ha k (.tail _ hk)
      obtain ⟨t1, t2, td, a1, a2⟩ := ha j (.head _) o1 o2 ho1 ho2
      obtain ⟨s1, s2, s3, s4⟩ := evE_swap he1 he2 t1 t2 td a1 a2
      obtain ⟨env3, H3, c1, c2, c3⟩ := hr2.congr (fun t => (s3 t).symm) (fun k => (s4 k).symm)
      exact ⟨o2, env3, H3, ho2, s1, .cons j _ o1 _ _ _ _ ho1 s2 c1, fun t => (c2 t).trans (r1 t), fun k => (c3 k).trans (r2 k)⟩
end
end Go.Ev
namespace Go.Ev
open Go
set_option linter.unusedSectionVars false
set_option linter.unusedSimpArgs false
set_option linter.unusedVariables false
variable [Frame]
def pureOp : IOp → Bool
  | .mov _ | .pick _ _ _ | .build _ _ | .bin _ _ _ | .eq _ _ _ _ _ | .eqn _ _ | .un _ _ | .toInt _ _ | .same _ | .toBytes _ | .mkf _ _ | .mki _ _ | .slcS _ _ _ | .field _ _ _ _ | .idxA _ _ _ _ _ | .idxS _ _ | .ext _ _ | .lenS _ | .lenA _ _
  | .least _ | .most _ => true
  | _ => false
theorem pureOp_spec {cx : Cx} {env : Env} {H : Heap} {op : IOp} {e : Eff} (h : pureOp op = true) (he : evOp cx env H op = some e) : e.rd = [] ∧ e.upd = [] := by
  cases op <;> first | (cases h; done) | skip
  all_goals simp only [evOp] at he
  all_goals first
    | (cases he; exact ⟨rfl, rfl⟩)
    | (split at he <;> first | (cases he; done) | (cases he; exact ⟨rfl, rfl⟩) | skip)
  all_goals first
    | (split at he <;> first | (cases he; done) | (cases he; exact ⟨rfl, rfl⟩) | skip)
  all_goals first
    | (split at he <;> first | (cases he; done) | (cases he; exact ⟨rfl, rfl⟩) | skip)
  all_goals first
    | (split at he <;> first | (cases he; done) | (cases he; exact ⟨rfl, rfl⟩) | skip)
def readOp (op : IOp) : Bool :=
  match op with
  | .load _ _ _ | .iaddr _ _ _ | .toStr _ | .isnl _ _ | .len _ | .slc _ _ _ _ _ | .nilchk _ | .faddr _ _ | .iaddrA _ _ _ _ => true
  | op => pureOp op
theorem readOp_spec {cx : Cx} {env : Env} {H : Heap} {op : IOp} {e : Eff} (h : readOp op = true) (he : evOp cx env H op = some e) : e.upd = [] := by
  have hp : ∀ {op : IOp}, pureOp op = true → evOp cx env H op = some e → e.upd = [] := fun h he => (pureOp_spec h he).2
  unfold readOp at h
  split at h <;> first | exact hp h he | skip
  all_goals simp only [evOp] at he
  all_goals
    repeat' (split at he)
    all_goals first | (cases he; done) | (cases he; rfl)
theorem readE {cx : Cx} {env : Env} {H : Heap} {o : Opn} {e : Eff} (h : readOp o.op = true) (he : evE cx o env H = some e) : e.upd = [] := by
  unfold evE at he
  split at he <;> first | (cases he; done) | skip
  · exact readOp_spec h he
  · cases he; rfl
def preds (o : Oper) : List Nat := (o.after.toList.filter fun e => Region.binds .any e).map (·.on)
theorem pureE {cx : Cx} {env : Env} {H : Heap} {o : Opn} {e : Eff} (h : pureOp o.op = true) (he : evE cx o env H = some e) : e.rd = [] ∧ e.upd = [] := by
  unfold evE at he
  split at he <;> first | (cases he; done) | skip
  · exact pureOp_spec h he
  · cases he; exact ⟨rfl, rfl⟩
def addN (l : List Nat) (x : Nat) : List Nat := match memN x l with | true => l | false => x :: l
def addAll (l : List Nat) : List Nat → List Nat
  | [] => l
  | x :: r => addAll (addN l x) r
def addPreds (acc : List (List Nat)) (l : List Nat) : List Nat → List Nat
  | [] => l
  | d :: r => addPreds acc (addAll (addN l d) (acc.getD d [])) r
def befs : List Oper → List (List Nat) → List (List Nat)
  | [], acc => acc
  | o :: r, acc => befs r (acc ++ [addPreds acc [] (preds o)])
def inPreds (B : List (List Nat)) (x : Nat) : List Nat → Bool
  | [] => false
  | d :: r => match Nat.beq d x with
    | true => true
    | false => match memN x (B.getD d []) with | true => true | false => inPreds B x r
def allPreds (B : List (List Nat)) (ds : List Nat) : List Nat → Bool
  | [] => true
  | x :: r => match inPreds B x ds with | true => allPreds B ds r | false => false
def mBef (B : List (List Nat)) : List Oper → List (List Nat) → Bool
  | [], [] => true
  | o :: r, b :: s => match allPreds B (preds o) b with | true => mBef B r s | false => false
  | _, _ => false
def offT (d : Option Nat) (ts : List Nat) : Bool :=
  match d with
  | none => true
  | some t => match memN t ts with | true => false | false => true
def offD (d d' : Option Nat) : Bool :=
  match d, d' with
  | some t, some t' => match Nat.beq t t' with | true => false | false => true
  | _, _ => true
def inChk (j i : Nat) : List (Nat × Nat) → Bool
  | [] => false
  | (a, b) :: r => match Nat.beq a j && Nat.beq b i with | true => true | false => inChk j i r
def pairOK (chk : List (Nat × Nat)) (j : Nat) (oj : Opn) (i : Nat) (oi : Opn) : Bool :=
  offT oj.dst (tmpsG oi) && offT oi.dst (tmpsG oj) && offD oj.dst oi.dst && (pureOp oj.op || pureOp oi.op || (readOp oj.op && readOp oi.op) || inChk j i chk)
def mPairs1 (chk : List (Nat × Nat)) (j : Nat) (oj : Opn) : Nat → List Opn → List (List Nat) → Bool
  | _, [], _ => true
  | i, oi :: r, b :: bs => (memN j b || pairOK chk j oj i oi) && mPairs1 chk j oj (i + 1) r bs
  | _, _ :: _, [] => false
def mPairs (chk : List (Nat × Nat)) : Nat → List Opn → List (List Nat) → Bool
  | _, [], _ => true
  | j, oj :: r, _ :: bs => mPairs1 chk j oj (j + 1) r bs && mPairs chk (j + 1) r bs
  | _, _ :: _, [] => false
def allBelow (n : Nat) : List Nat → Bool
  | [] => true
  | x :: r => match Nat.blt x n with | true => allBelow n r | false => false
def mBack : Nat → List Oper → Bool
  | _, [] => true
  | n, o :: r => match allBelow n (preds o) with | true => mBack (n + 1) r | false => false
def mDraw (ops : Array Oper) (os : List Opn) (chk : List (Nat × Nat)) : Bool :=
  mBack 0 ops.toList && (mBef (befs ops.toList []) ops.toList (befs ops.toList []) && mPairs chk 0 os (befs ops.toList []))
theorem allBelow_spec {n : Nat} : ∀ {l : List Nat}, allBelow n l = true → ∀ x ∈ l, x < n
  | [], _, x, hx => by cases hx
  | y :: r, h, x, hx => by
    simp only [allBelow] at h
    split at h <;> first | (cases h; done) | skip
    rename_i hp
    cases hx with
    | head => exact blt_iff.1 hp
    | tail _ hx => exact allBelow_spec h x hx
theorem mBack_spec : ∀ {l : List Oper} {n : Nat}, mBack n l = true → ∀ (i : Nat) o, l[i]? = some o → ∀ x ∈ preds o, x < n + i
  | [], _, _, i, o, h => by simp at h
  | o :: l, n, h, i, o', ho => by
    simp only [mBack] at h
    split at h <;> first | (cases h; done) | skip
    rename_i hb
    cases i with
    | zero => simp at ho; subst ho; simpa using allBelow_spec hb
    | succ i =>
      simp at ho
      intro x hx
      have := mBack_spec h i o' ho x hx
      omega
theorem inPreds_spec {B : List (List Nat)} {x : Nat} : ∀ {ds : List Nat}, inPreds B x ds = true → ∃ d ∈ ds, d = x ∨ x ∈ B.getD d []
  | [], h => by cases h
  | d :: r, h => by
    simp only [inPreds] at h
    split at h
    · rename_i hb; exact ⟨d, .head _, .inl (nbeq_iff.1 hb)⟩
    · split at h
      · rename_i hm; exact ⟨d, .head _, .inr (memN_iff.1 hm)⟩
      · obtain ⟨d', h1, h2⟩ := inPreds_spec h; exact ⟨d', .tail _ h1, h2⟩
theorem allPreds_spec {B : List (List Nat)} {ds : List Nat} : ∀ {b : List Nat}, allPreds B ds b = true → ∀ x ∈ b, ∃ d ∈ ds, d = x ∨ x ∈ B.getD d []
  | [], _, x, hx => by cases hx
  | y :: r, h, x, hx => by
    simp only [allPreds] at h
    split at h <;> first | (cases h; done) | skip
    rename_i hp
    cases hx with
    | head => exact inPreds_spec hp
    | tail _ hx => exact allPreds_spec h x hx
theorem mBef_spec {B : List (List Nat)} : ∀ {l : List Oper} {b : List (List Nat)}, mBef B l b = true → ∀ (i : Nat) o, l[i]? = some o → ∀ x ∈ b.getD i [], ∃ d ∈ preds o, d = x ∨ x ∈ B.getD d []
  | [], _, _, i, o, h => by simp at h
  | _ :: _, [], h, _, _, _ => by simp [mBef] at h
  | o :: l, b :: bs, h, i, o', ho => by
    simp only [mBef] at h
    split at h <;> first | (cases h; done) | skip
    rename_i hb
    cases i with
    | zero => simp at ho; subst ho; simpa using allPreds_spec hb
    | succ i => simp at ho; simpa using mBef_spec h i o' ho
theorem mPairs1_spec {chk : List (Nat × Nat)} {j : Nat} {oj : Opn} : ∀ {r : List Opn} {bs : List (List Nat)} {i : Nat}, mPairs1 chk j oj i r bs = true → ∀ (k : Nat) oi, r[k]? = some oi → j ∈ bs.getD k [] ∨ pairOK chk j oj (i + k) oi = true
  | [], _, _, _, k, oi, h => by simp at h
  | _ :: _, [], _, h, _, _, _ => by simp [mPairs1] at h
  | oi :: r, b :: bs, i, h, k, o, ho => by
    simp only [mPairs1, Bool.and_eq_true, Bool.or_eq_true] at h
    cases k with
    | zero =>
      simp at ho; subst ho
      rcases h.1 with h1 | h1
      · exact .inl (by simpa using memN_iff.1 h1)
      · exact .inr h1
    | succ k =>
      simp at ho
      rcases mPairs1_spec h.2 k o ho with h1 | h1
      · exact .inl (by simpa using h1)
      · exact .inr (by rw [show i + (k + 1) = i + 1 + k by omega]; exact h1)
theorem mPairs_spec {chk : List (Nat × Nat)} : ∀ {os : List Opn} {bs : List (List Nat)} {n : Nat}, mPairs chk n os bs = true → ∀ (j i : Nat) oj oi, j < i → os[j]? = some oj → os[i]? = some oi → n + j ∈ bs.getD i [] ∨ pairOK chk (n + j) oj (n + i) oi = true
  | [], _, _, _, j, i, oj, oi, _, h, _ => by simp at h
  | _ :: _, [], _, h, _, _, _, _, _, _, _ => by simp [mPairs] at h
  | o :: os, b :: bs, n, h, j, i, oj, oi, hlt, hj, hi => by
    simp only [mPairs, Bool.and_eq_true] at h
    cases i with
    | zero => omega
    | succ i =>
      simp at hi
      cases j with
      | zero =>
        simp at hj; subst hj
        rcases mPairs1_spec h.1 i oi hi with h1 | h1
        · exact .inl (by simpa using h1)
        · exact .inr (by rw [show n + (i + 1) = n + 1 + i by omega]; exact h1)
      | succ j =>
        simp at hj
        rcases mPairs_spec h.2 j i oj oi (by omega) hj hi with h1 | h1
        · exact .inl (by rw [show n + (j + 1) = n + 1 + j by omega]; simpa using h1)
        · exact .inr (by rw [show n + (j + 1) = n + 1 + j by omega, show n + (i + 1) = n + 1 + i by omega]; exact h1)
end Go.Ev
namespace Go.Ev
open Go
set_option linter.unusedSectionVars false
set_option linter.unusedSimpArgs false
set_option linter.unusedVariables false
variable [Frame]
section
variable {cx : Cx} {full : List Opn} {L : Nat → Eff}
theorem Runs.ext {L' : Nat → Eff} : ∀ {ts : List Nat} {env H env' H'}, Runs cx full L ts env H env' H' → (∀ i ∈ ts, L' i = L i) → Runs cx full L' ts env H env' H'
  | [], _, _, _, _, h, _ => by cases h; exact .nil _ _
  | i :: ts, _, _, _, _, h, he => by
    cases h with
    | cons _ _ o _ _ _ _ ho hev hr =>
      have e := he i (.head _)
      exact .cons i ts o _ _ _ _ ho (by rw [e]; exact hev) (by rw [e]; exact hr.ext fun k hk => he k (.tail _ hk))
theorem Runs.each : ∀ {ts : List Nat} {env H env' H'}, Runs cx full L ts env H env' H' → ∀ i ∈ ts, ∃ o env1 H1, full[i]? = some o ∧ evE cx o env1 H1 = some (L i)
  | [], _, _, _, _, _, i, hi => by cases hi
  | j :: ts, _, _, _, _, h, i, hi => by
    cases h with
    | cons _ _ o _ _ _ _ ho hev hr =>
      cases hi with
      | head => exact ⟨o, _, _, ho, hev⟩
      | tail _ hi => exact hr.each i hi
theorem evOpsD_runs : ∀ {os : List Opn} (n : Nat) {env : Env} {H : Heap} {env' : Env} {H' : Heap} {l : List (List Nat × List Nat)}, (∀ (j : Nat) o, os[j]? = some o → full[n + j]? = some o) → evOpsD cx os env H = some ((env', H'), l) →
    ∃ L : Nat → Eff, Runs cx full L (List.range' n os.length) env H env' H' ∧ ∀ (j : Nat) e, l[j]? = some e → e = ((L (n + j)).rd, keys (L (n + j)).upd)
  | [], n, env, H, env', H', l, _, he => by
    simp only [evOpsD] at he
    cases he
    exact ⟨fun _ => ⟨.undef, [], []⟩, .nil _ _, fun j e h => by simp at h⟩
  | o :: os, n, env, H, env', H', l, hf, he => by
    have hone : ∃ e0 l', evE cx o env H = some e0 ∧ evOpsD cx os (put env o.dst e0.v) (hsets e0.upd H) = some ((env', H'), l') ∧ l = (e0.rd, keys e0.upd) :: l' := by
      simp only [evOpsD] at he
      unfold evE
      split at he <;> first | (cases he; done) | skip
      rename_i b hb
      rw [hb]
      split at he
      · split at he <;> first | (cases he; done) | skip
        rename_i e hev
        split at he <;> cases he
        rename_i hrest
        exact ⟨e, _, hev, hrest, rfl⟩
      · split at he <;> cases he
        rename_i hrest
        exact ⟨_, _, rfl, hrest, rfl⟩
    obtain ⟨e0, l', h1, h2, rfl⟩ := hone
    obtain ⟨L, h3, h4⟩ := evOpsD_runs (n + 1) (fun j o' hj => by
      have := hf (j + 1) o' (by simpa using hj)
      rwa [show n + 1 + j = n + (j + 1) by omega]) h2
    refine ⟨fun i => if i = n then e0 else L i, ?_, fun j e hj => ?_⟩
    · rw [List.length_cons, List.range'_succ]
      refine .cons n _ o _ _ _ _ (hf 0 o rfl) (by simpa using h1) ?_
      simp only [if_true]
      refine h3.ext fun i hi => ?_
      have := (List.mem_range'_1.1 hi).1
      simp only [if_neg (show i ≠ n by omega)]
    · cases j with
      | zero => simp at hj; subst hj; simp
      | succ j =>
        simp at hj
        have := h4 j e hj
        have hne : n + (j + 1) ≠ n := by omega
        simp only [if_neg hne]
        rw [this, show n + 1 + j = n + (j + 1) by omega]
theorem offT_spec {d : Option Nat} {ts : List Nat} (h : offT d ts = true) : ∀ t, d = some t → t ∉ ts := by
  intro t ht hm
  subst ht
  simp [offT, memN_iff.2 hm] at h
theorem offD_spec {d d' : Option Nat} (h : offD d d' = true) : ∀ t, d = some t → d' ≠ some t := by
  intro t ht ht'
  subst ht; subst ht'
  simp [offD] at h
theorem inChk_spec {j i : Nat} : ∀ {chk : List (Nat × Nat)}, inChk j i chk = true → (j, i) ∈ chk
  | [], h => by cases h
  | (a, b) :: r, h => by
    simp only [inChk] at h
    split at h
    · rename_i hb
      simp only [Bool.and_eq_true] at hb
      have h1 := nbeq_iff.1 hb.1
      have h2 := nbeq_iff.1 hb.2
      subst h1; subst h2; exact .head _
    · exact .tail _ (inChk_spec h)
theorem apartAll_spec {l : List (List Nat × List Nat)} : ∀ {chk : List (Nat × Nat)}, apartAll l chk = true → ∀ j i, (j, i) ∈ chk → ∃ a b, l[j]? = some a ∧ l[i]? = some b ∧ apartFP a b = true
  | [], _, j, i, hm => by cases hm
  | (x, y) :: r, h, j, i, hm => by
    simp only [apartAll] at h
    split at h <;> first | (cases h; done) | skip
    rename_i a b ha hb
    split at h <;> first | (cases h; done) | skip
    rename_i hab
    cases hm with
    | head => exact ⟨a, b, ha, hb, hab⟩
    | tail _ hm => exact apartAll_spec h j i hm
theorem pair_apart {chk : List (Nat × Nat)} {l : List (List Nat × List Nat)} (hap : apartAll l chk = true) (hl : ∀ (j : Nat) e, l[j]? = some e → e = ((L j).rd, keys (L j).upd))
    (hev : ∀ (i : Nat) o, full[i]? = some o → ∃ env1 H1, evE cx o env1 H1 = some (L i)) {j i : Nat} {oj oi : Opn} (hj : full[j]? = some oj) (hi : full[i]? = some oi) (h : pairOK chk j oj i oi = true) : Apart full L j i := by
  intro o1 o2 h1 h2
  rw [hj] at h1; cases h1
  rw [hi] at h2; cases h2
  simp only [pairOK, Bool.and_eq_true, Bool.or_eq_true] at h
  obtain ⟨⟨⟨p1, p2⟩, p3⟩, p4⟩ := h
  have mem : (∀ k ∈ keys (L j).upd, k ∉ (L i).rd ∧ k ∉ keys (L i).upd) ∧ (∀ k ∈ keys (L i).upd, k ∉ (L j).rd) := by
    rcases p4 with ((p | p) | ⟨p, q⟩) | p
    · obtain ⟨_, _, he⟩ := hev j oj hj
      obtain ⟨q1, q2⟩ := pureE p he
      rw [q1, q2]
      exact ⟨fun k hk => (by simp [keys] at hk), fun k _ hk => (by cases hk)⟩
    · obtain ⟨_, _, he⟩ := hev i oi hi
      obtain ⟨q1, q2⟩ := pureE p he
      rw [q1, q2]
      exact ⟨fun k _ => ⟨fun hk => (by cases hk), fun hk => (by simp [keys] at hk)⟩, fun k hk => by simp [keys] at hk⟩
    · obtain ⟨_, _, he⟩ := hev j oj hj
      obtain ⟨_, _, hf⟩ := hev i oi hi
      rw [readE p he, readE q hf]
      exact ⟨fun k hk => (by simp [keys] at hk), fun k hk => (by simp [keys] at hk)⟩
    · obtain ⟨a, b, ha, hb, hab⟩ := apartAll_spec hap j i (inChk_spec p)
      have ea := hl j a ha
      have eb := hl i b hb
      subst ea; subst eb
      unfold apartFP at hab
      split at hab <;> first | (cases hab; done) | skip
      rename_i x1 x2 x3
      exact ⟨fun k hk => ⟨apartN_spec x1 k hk, apartN_spec x2 k hk⟩, fun k hk => apartN_spec x3 k hk⟩
  exact ⟨offT_spec p1, offT_spec p2, offD_spec p3, mem.1, mem.2⟩
end
section
variable {P : Program} {cx : Cx} {gs : List Nat} {N : Nat} {w0 w : World} {K : Nat → Prop} {R : Refs} {H : Heap} {env : Env} {a : Act}
theorem Inv.drawn (hI : Inv cx gs N w0 K w R H env a) : Inv cx gs N w0 K { w with drawn := w.drawn + 1 } R H env a := by
  have hG : ∀ X, Grow w X { w with drawn := w.drawn + 1 } := fun X => ⟨Nat.le_refl _, fun _ _ _ => rfl, fun _ cs _ _ h => ⟨cs, h, rfl⟩, rfl, rfl, rfl, fun _ _ => rfl⟩
  have hX : ∀ k, k < w.heap.size → ¬ Xof H R k → ¬ Xof H R k := fun k _ h => h
  exact ⟨hI.heap.change (hG _) (RExt.refl R) hX hI.heap.dom (fun i b hb => .inl ⟨hb, rfl, .inr fun _ _ _ _ _ => rfl⟩) hI.heap.inj hI.heap.off,
    fun t => (hI.env t).mono (hG _) hX (RExt.refl R), fun g hg => (hI.glob g hg).mono (hG _) hX (RExt.refl _), hI.size, hI.calm,
    hI.grow.trans (hG _) (fun k _ h => h), hI.own⟩
theorem evOne_of {o : Opn} {e : Eff} {env : Env} {H : Heap} (h : evE cx o env H = some e) : evOne cx o env H = some (put env o.dst e.v, hsets e.upd H) := by
  unfold evE at h
  unfold evOne
  split at h <;> first | (cases h; done) | skip
  · rename_i hw
    first | rw [hw, h] | rw [h]
  · rename_i hw
    first | rw [hw] | skip
    cases h
    rfl
theorem any_ok (hcall : ∀ f, FnOK P cx.glob gs cx.call f) {ops : Array Oper} {os : List Opn} {B : List (List Nat)} {L : Nat → Eff} (hm : mAll P gs N ops ops.toList os = true)
    (hback : ∀ (i : Nat) o, ops[i]? = some o → ∀ x ∈ preds o, x < i) (hbef : ∀ (i : Nat) o, ops[i]? = some o → ∀ x ∈ B.getD i [], ∃ d ∈ preds o, d = x ∨ x ∈ B.getD d [])
    (hpair : ∀ j i, j < i → i < ops.size → j ∈ B.getD i [] ∨ Apart os L j i) {Q : Exit → Act → World → Prop} :
    ∀ (fuel : Nat) (ts : List Nat) (listed : Array Bool) (w : World) (R : Refs) (H : Heap) (env : Env) (a : Act) (env' : Env) (H' : Heap), fuel = ts.length → ts.Pairwise (· < ·) → listed.size = ops.size →
      (∀ j, j < ops.size → (listed.getD j true = false ↔ j ∈ ts)) → (∀ j ∈ ts, j < ops.size) → (∀ i, listed.getD i false = true → ∀ x ∈ B.getD i [], listed.getD x false = true) →
      Runs cx os L ts env H env' H' → Inv cx gs N w0 K w R H env a → (∀ a' w' R', Inv cx gs N w0 K w' R' H' env' a' → Q .normal a' w') → wpAny P .any ops Q fuel listed a w := by
  intro fuel
  have tf : ∀ (listed : Array Bool) (j : Nat), listed.size = ops.size → j < ops.size → (listed.getD j false = true ↔ listed.getD j true ≠ false) := by
    intro listed j hs hj
    have : j < listed.size := by omega
    simp [Array.getD, this]
  induction fuel with
  | zero =>
    intro ts listed w R H env a env' H' hf hp hs hlt hts hcl hr hI hQ
    have : ts = [] := List.length_eq_zero_iff.1 hf.symm
    subst this
    cases hr
    refine ⟨?_, hQ a w R hI⟩
    refine List.eq_nil_iff_forall_not_mem.2 fun i hi => ?_
    obtain ⟨h1, o, ho, _⟩ := mem_ready.1 hi
    have := (hlt i (Array.getElem?_eq_some_iff.1 ho).1).1 h1
    cases this
  | succ fuel ih =>
    intro ts listed w R H env a env' H' hf hp hs hlt hts hcl hr hI hQ
    have preds_listed : ∀ {i : Nat} {o : Oper}, ops[i]? = some o → (∀ e ∈ o.after, Region.binds .any e = true → listed.getD e.on false = true) → ∀ d ∈ preds o, listed.getD d false = true := by
      intro i o ho h d hd
      unfold preds at hd
      obtain ⟨e, he, rfl⟩ := List.mem_map.1 hd
      obtain ⟨he1, he2⟩ := List.mem_filter.1 he
      exact h e (by simpa using he1) he2
    refine ⟨fun hnil => ?_, fun i hi => ?_⟩
    · exfalso
      cases ts with
      | nil => simp at hf
      | cons i ts =>
        have hi : i < ops.size := hts i (.head _)
        have : i ∈ Region.ready .any ops listed := by
          refine mem_ready.2 ⟨(hlt i hi).2 (.head _), ops[i], by simp [hi], fun e he hb => ?_⟩
          have hd : e.on ∈ preds ops[i] := List.mem_map.2 ⟨e, List.mem_filter.2 ⟨by simpa using he, hb⟩, rfl⟩
          have hon := hback i ops[i] (by simp [hi]) e.on hd
          refine (tf listed e.on hs (by omega)).2 fun hfalse => ?_
          have := (hlt e.on (by omega)).1 hfalse
          cases this with
          | head => omega
          | tail _ hmem =>
            have := (List.pairwise_cons.1 hp).1 _ hmem
            omega
        rw [hnil] at this
        cases this
    · obtain ⟨h1, o, ho, h2⟩ := mem_ready.1 hi
      have hisz : i < ops.size := (Array.getElem?_eq_some_iff.1 ho).1
      have hit : i ∈ ts := (hlt i hisz).1 h1
      obtain ⟨p, q, rfl⟩ := List.append_of_mem hit
      obtain ⟨pp, pq, ppq⟩ := List.pairwise_append.1 hp
      have hBi : ∀ x ∈ B.getD i [], listed.getD x false = true := by
        intro x hx
        obtain ⟨d, hd, hdx⟩ := hbef i o ho x hx
        have hdl := preds_listed ho h2 d hd
        rcases hdx with rfl | hdx
        · exact hdl
        · exact hcl d hdl x hdx
      have hap : ∀ j ∈ p, Apart os L j i := by
        intro j hj
        have hji : j < i := ppq j hj i (.head _)
        rcases hpair j i hji hisz with h | h
        · exfalso
          have h3 := hBi j h
          have hjsz : j < ops.size := by omega
          exact (tf listed j hs hjsz).1 h3 ((hlt j hjsz).2 (List.mem_append_left _ hj))
        · exact h
      obtain ⟨oi, env2, H2, hoi, hei, hr2, e1, e2⟩ := Runs.front hr hap
      have hmi := (mAll_get hm).2 i o oi (by simpa using ho) hoi
      refine one_ok hcall ho hmi hI (evOne_of hei) fun a1 w1 R1 hI1 => ?_
      have hnp : i ∉ p := fun h => Nat.lt_irrefl i (ppq i h i (.head _))
      have hnq : i ∉ q := fun h => Nat.lt_irrefl i ((List.pairwise_cons.1 pq).1 i h)
      refine ih (p ++ q) _ w1 R1 _ _ a1 env2 H2 ?_ ?_ ?_ ?_ ?_ ?_ hr2 hI1 ?_
      · simp at hf ⊢; omega
      · exact List.pairwise_append.2 ⟨pp, (List.pairwise_cons.1 pq).2, fun x hx y hy => ppq x hx y (.tail _ hy)⟩
      · simp [hs]
      · intro j hj
        by_cases hji : i = j
        · subst hji
          have : i < listed.size := by omega
          simp [Array.getD, this, hnp, hnq]
        · rw [getD_set_ne true hji, hlt j hj]
          simp [List.mem_append, Ne.symm hji]
      · intro j hj
        refine hts j ?_
        rcases List.mem_append.1 hj with h | h
        · exact List.mem_append_left _ h
        · exact List.mem_append_right _ (.tail _ h)
      · intro j hj x hx
        by_cases hji : i = j
        · subst hji; exact getD_set_true (hBi x hx)
        · rw [getD_set_ne false hji] at hj
          exact getD_set_true (hcl j hj x hx)
      · intro a' w' R' hI'
        exact hQ a' w' R' (hI'.congr e2 e1)
theorem draw_ok (hP : P.follows .mixedOrders = true) (hcall : ∀ f, FnOK P cx.glob gs cx.call f) {ops : Array Oper} {id : Nat} {os : List Opn} {chk : List (Nat × Nat)} (hm : mAll P gs N ops ops.toList os = true) (hd : mDraw ops os chk = true)
    (hI : Inv cx gs N w0 K w R H env a) {env' : Env} {H' : Heap} {l : List (List Nat × List Nat)} (he : evOpsD cx os env H = some ((env', H'), l)) (hap : apartAll l chk = true) {Q : Exit → Act → World → Prop}
    (hQ : ∀ a' w' R', Inv cx gs N w0 K w' R' H' env' a' → Q .normal a' w') : (Code.region id ops true).wp P Q a w := by
  refine wp_region_any hP ?_
  simp only [mDraw, Bool.and_eq_true] at hd
  obtain ⟨d1, d2, d3⟩ := hd
  obtain ⟨L, hr, hl⟩ := evOpsD_runs (full := os) 0 (fun j o h => by simpa using h) he
  have hlen : os.length = ops.size := by rw [← (mAll_get hm).1]; simp
  have hget : ∀ i, i < ops.size → ∃ q, os[i]? = some q := fun i hi => ⟨os[i]'(by omega), by simp [hlen, hi]⟩
  have hev : ∀ (i : Nat) o, os[i]? = some o → ∃ env1 H1, evE cx o env1 H1 = some (L i) := by
    intro i o ho
    have hi : i < os.length := (List.getElem?_eq_some_iff.1 ho).1
    obtain ⟨o', env1, H1, h1, h2⟩ := hr.each i (List.mem_range'_1.2 ⟨Nat.zero_le _, by omega⟩)
    rw [ho] at h1; cases h1
    exact ⟨env1, H1, h2⟩
  rw [hlen] at hr
  refine any_ok hcall hm (B := befs ops.toList []) (L := L) (fun i o ho => ?_) (fun i o ho => ?_) (fun j i hji hi => ?_) ops.size (List.range' 0 ops.size) _ _ R H env a env' H' (by simp) List.pairwise_lt_range' (by simp) (fun j hj => ?_) (fun j hj => ?_) (fun i hi => ?_) hr hI.drawn hQ
  · have := mBack_spec d1 i o (by simpa using ho)
    simpa using this
  · exact mBef_spec d2 i o (by simpa using ho)
  · obtain ⟨oi, hoi⟩ := hget i hi
    obtain ⟨oj, hoj⟩ := hget j (by omega)
    rcases mPairs_spec d3 j i oj oi hji hoj hoi with h | h
    · exact .inl (by simpa using h)
    · refine .inr (pair_apart hap (fun j e h => by simpa using hl j e h) hev hoj hoi (by simpa using h))
  · simp [Array.getD, hj, List.mem_range'_1]
  · have := (List.mem_range'_1.1 hj).2
    omega
  · exfalso
    by_cases h : i < ops.size <;> simp [Array.getD, h] at hi
end
end Go.Ev
namespace Go.Ev
open Go
set_option linter.unusedSectionVars false
set_option linter.unusedSimpArgs false
set_option linter.unusedVariables false
variable [Frame]
section
variable {P : Program} {cx : Cx} {gs : List Nat} {N : Nat} {w0 w : World} {K : Nat → Prop} {R : Refs} {H : Heap} {env : Env} {a : Act}
def onlyR (ids : List Nat) (R : Refs) : Refs := fun i => if memN i ids = true then R i else none
theorem ment1_rep {ids : List Nat} {X X' : Nat → Prop} {p : PV} {v : Value} (h : Rep w X R p v) (hm : ment1 ids p = true) (hX : ∀ k, X' k → X k) : Rep w X' (onlyR ids R) p v := by
  have up : ∀ {i : Nat} {r : RB}, R i = some r → memN i ids = true → onlyR ids R i = some r := fun h1 h2 => by simp [onlyR, h2, h1]
  have sub : ∀ {q : PV} {u : Value}, Rep w X noRefs q u → Rep w X' noRefs q u := fun h => h.mono (Grow.refl w _) (fun k _ hn hx => hn (hX k hx)) (RExt.no _)
  cases h with
  | ptr _ id b k base j h hb hk => exact .ptr _ id b k base j (up h hm) hb hk
  | eptr _ id b k base i j cl h hb hl hk => exact .eptr _ id b k base i j cl (up h hm) hb hl hk
  | eptrS _ id b i j cl _ h hb hl h1 => exact .eptrS _ id b i j cl _ (up h hm) hb hl h1
  | own _ id b k base off len cl c cs et fr h hb hl hk h1 h2 h3 hw h4 => exact .own _ id b k base off len cl c cs et fr (up h hm) hb hl hk h1 h2 h3 hw h4
  | ownZ _ id b ad cl h hb hl => exact .ownZ _ id b ad cl (up h hm) hb hl
  | ownS _ id b off len cl _ h hb hl h1 => exact .ownS _ id b off len cl _ (up h hm) hb hl h1
  | func => cases hm
  | iface => cases hm
  | agg => cases hm
  | tuple => cases hm
  | any _ v => exact .any _ v
  | undef => exact .undef _
  | bool _ b => exact .bool _ b
  | int _ k n => exact .int _ k n
  | str _ s => exact .str _ s
  | nilp => exact .nilp _
  | nilf => exact .nilf _
  | nili => exact .nili _
  | nul _ ad => exact .nul _ ad
  | nils _ c => exact .nils _ c
  | emp _ a c => exact .emp _ a c
  | rptr _ k o cells vs hk hs hc hr => exact .rptr _ k o cells vs (fun hx => hk (hX k hx)) hs hc fun i pv hi => sub (hr i pv hi)
  | ro0 _ ad c => exact .ro0 _ ad c
  | ro _ k o sz rows c vs hk hs hl hz hc hr => exact .ro _ k o sz rows c vs (fun hx => hk (hX k hx)) hs hl hz hc fun i row j pv hi hj => sub (hr i row j pv hi hj)
theorem mentL_get {ids : List Nat} : ∀ {l : List PV}, mentL ids l = true → ∀ (i : Nat) p, l[i]? = some p → ment1 ids p = true
  | [], _, i, p, h => by simp at h
  | q :: r, h, i, p, hp => by
    simp only [mentL] at h
    split at h <;> first | (cases h; done) | skip
    rename_i hq
    cases i with
    | zero => simp at hp; subst hp; exact hq
    | succ i => simp at hp; exact mentL_get h i p hp
theorem ment_rep {ids : List Nat} {X X' : Nat → Prop} {p : PV} {v : Value} (h : Rep w X R p v) (hm : ment ids p = true) (hX : ∀ k, X' k → X k) : Rep w X' (onlyR ids R) p v := by
  unfold ment at hm
  split at hm
  · cases h with
    | agg _ _ arr hl h1 h => exact .agg _ _ arr hl h1 fun i pv u hp hu => ment1_rep (h i pv u hp hu) (mentL_get hm i pv hp) hX
  · cases h with
    | tuple _ _ arr hl h => exact .tuple _ _ arr hl fun i pv u hp hu => ment1_rep (h i pv u hp hu) (mentL_get hm i pv hp) hX
  · cases h with
    | func _ _ _ arr hl h1 h => exact .func _ _ _ arr hl h1 fun i pv u hp hu => ment1_rep (h i pv u hp hu) (mentL_get hm i pv hp) hX
  · cases h with
    | iface _ _ _ u h => cases h with
      | agg _ _ arr hl h1 h => exact .iface _ _ _ _ (.agg _ _ arr hl h1 fun i pv u hp hu => ment1_rep (h i pv u hp hu) (mentL_get hm i pv hp) hX)
  · cases h with
    | iface _ _ _ u h => exact .iface _ _ _ _ (ment1_rep h hm hX)
  · exact ment1_rep h hm hX
theorem keepE_spec {ids : List Nat} : ∀ {ts : List Nat} {e : Env}, keepE ids env ts = some e → ∀ t, (getT e t = getT env t ∧ ment ids (getT env t) = true) ∨ getT e t = .any
  | [], e, h, t => by simp only [keepE] at h; cases h; exact .inr rfl
  | i :: r, e, h, t => by
    simp only [keepE] at h
    split at h <;> cases h
    rename_i e' hm hr
    simp only [getT]
    cases hb : Nat.beq i t with
    | true => have := nbeq_iff.1 hb; subst this; exact .inl ⟨rfl, hm⟩
    | false => exact keepE_spec hr t
theorem keepH_spec {ids : List Nat} : ∀ {l : List Nat} {h : Heap}, keepH ids H l = some h → (∀ i, hget h i = if i ∈ l then hget H i else none) ∧ ∀ i cs, hget h i = some (.box cs) → mentL ids cs = true
  | [], h, e => by simp only [keepH] at e; cases e; exact ⟨fun i => by simp [hget], fun i cs h => by cases h⟩
  | j :: r, h, e => by
    simp only [keepH] at e
    have cons : ∀ (b : Blk) (h' : Heap), hget H j = some b → keepH ids H r = some h' → (∀ cs, b = .box cs → mentL ids cs = true) →
        (∀ i, hget ((j, b) :: h') i = if i ∈ j :: r then hget H i else none) ∧ ∀ i cs, hget ((j, b) :: h') i = some (.box cs) → mentL ids cs = true := by
      intro b h' hj hr hb
      obtain ⟨h1, h2⟩ := keepH_spec hr
      refine ⟨fun i => ?_, fun i cs hi => ?_⟩
      · simp only [hget]
        cases hbq : Nat.beq j i with
        | true => have := nbeq_iff.1 hbq; subst this; simp [hj]
        | false => have := nbeq_false hbq; simp [h1 i, Ne.symm this]
      · simp only [hget] at hi
        cases hbq : Nat.beq j i with
        | true => rw [hbq] at hi; cases hi; exact hb cs rfl
        | false => rw [hbq] at hi; exact h2 i cs hi
    split at e
    · rename_i cs h' hj hr
      split at e <;> cases e
      rename_i hm
      exact cons _ _ hj hr (fun cs' e => by cases e; exact hm)
    · rename_i b h' hne hj hr
      cases e
      exact cons _ _ hj hr (fun cs' e => absurd e (hne cs'))
    · rename_i h' hj hr
      cases e
      obtain ⟨h1, h2⟩ := keepH_spec hr
      refine ⟨fun i => ?_, h2⟩
      rw [h1]
      by_cases hi : i = j
      · subst hi; simp [hj]
      · simp [hi]
    · cases e
theorem keep_ok (hI : Inv cx gs N w0 K w R H env a) {ts ids : List Nat} {e : Env} {h : Heap} (he : keepE ids env ts = some e) (hh : keepH ids H ids = some h) : ∃ R', Inv cx gs N w0 K w R' h e a := by
  obtain ⟨k1, k2⟩ := keepH_spec hh
  have hg : ∀ i b, hget h i = some b → hget H i = some b ∧ i ∈ ids := fun i b hi => by
    rw [k1] at hi
    split at hi
    · rename_i hm; exact ⟨hi, hm⟩
    · cases hi
  have hR : ∀ i r, onlyR ids R i = some r → R i = some r := fun i r hr => by
    simp only [onlyR] at hr
    split at hr
    · exact hr
    · cases hr
  have hO : ∀ k, Own h (onlyR ids R) k → Own H R k := by
    rintro k ⟨i, b, r, o, h1, h2, h3, h4⟩
    exact ⟨i, b, r, o, (hg i b h1).1, h2, hR i r h3, h4⟩
  have hX : ∀ k, Xof h (onlyR ids R) k → Xof H R k := fun k hk => hk.imp id (hO k)
  have hH := hI.heap
  refine ⟨onlyR ids R, ⟨hH.flt, fun i b r k o hi hd hr hk => hH.off i b r k o (hg i b hi).1 hd (hR i r hr) hk, fun i hi => ?_, fun i b hi => ?_, fun i i' b b' r r' k o o' hi hi' hd hd' hr hr' => hH.inj i i' b b' r r' k o o' (hg i b hi).1 (hg i' b' hi').1 hd hd' (hR i r hr) (hR i' r' hr')⟩,
    fun t => ?_, fun g hgg => (hI.glob g hgg).mono (Grow.refl w _) (fun k _ hn hx => hn (hX k hx)) (RExt.refl _), hI.size, hI.calm, hI.grow, fun k hk ho => hI.own k hk (hO k ho)⟩
  · simp only [onlyR]
    split
    · rename_i hm
      rw [k1, if_pos (memN_iff.1 hm)] at hi
      exact hH.dom i hi
    · rfl
  · obtain ⟨h1, h2⟩ := hg i b hi
    obtain ⟨r, q1, q2⟩ := hH.has i b h1
    refine ⟨r, by simp [onlyR, memN_iff.2 h2, q1], ?_⟩
    cases b with
    | box cells =>
      obtain ⟨b1, k, base, cs, et, b2, b3, b4, b5⟩ := q2
      refine ⟨b1, k, base, cs, et, b2, b3, b4, fun j pv hj => ?_⟩
      obtain ⟨v, v1, v2, v3⟩ := b5 j pv hj
      exact ⟨v, v1, v2, ment1_rep v3 (mentL_get (k2 i cells hi) j pv hj) hX⟩
    | arr sz rows => exact BRel.mono (b := .arr sz rows) (Grow.refl w _) (fun k _ hn hx => hn (hX k hx)) (RExt.no _) (fun _ _ _ => rfl) (show BRel w _ noRefs r (.arr sz rows) from q2)
    | froz sz rows => exact BRel.mono (b := .froz sz rows) (Grow.refl w _) (fun k _ hn hx => hn (hX k hx)) (RExt.no _) (fun _ _ _ => rfl) (show BRel w _ noRefs r (.froz sz rows) from q2)
    | iter s pos => exact q2
    | dead => trivial
  · rcases keepE_spec he t with ⟨e1, e2⟩ | e1
    · rw [e1]; exact ment_rep (hI.env t) e2 hX
    · rw [e1]; exact .any _ _
theorem name_ok (hH : HRel w R H) {id sz : Nat} (hid : hget H id = none) :
    HRel w (upR R id ⟨false, none, sz, 0⟩) (hset H id (.arr sz [])) ∧ RExt R (upR R id ⟨false, none, sz, 0⟩) ∧ (∀ k, Own (hset H id (.arr sz [])) (upR R id ⟨false, none, sz, 0⟩) k → Own H R k) := by
  have hRid := hH.dom id hid
  have hO : ∀ k, Own (hset H id (.arr sz [])) (upR R id ⟨false, none, sz, 0⟩) k → Own H R k := by
    rintro k ⟨i, b, r, o, h1, h2, h3, h4⟩
    rw [hget_hset] at h1
    by_cases e : i = id
    · subst e; rw [upR_same] at h3; cases h3; cases h4
    · rw [if_neg e] at h1; rw [upR_ne R _ e] at h3; exact ⟨i, b, r, o, h1, h2, h3, h4⟩
  have hX : ∀ k, k < w.heap.size → ¬ Xof H R k → ¬ Xof (hset H id (.arr sz [])) (upR R id ⟨false, none, sz, 0⟩) k := fun k _ hn hx => hn (hx.imp _root_.id (hO k))
  refine ⟨hH.change (Grow.refl w _) (RExt.new hRid _) hX ?_ ?_ ?_ ?_, RExt.new hRid _, hO⟩
  · intro j hj
    rw [hget_hset] at hj
    by_cases e : j = id
    · rw [if_pos e] at hj; cases hj
    · rw [if_neg e] at hj; rw [upR_ne R _ e]; exact hH.dom j hj
  · intro j b hj
    rw [hget_hset] at hj
    by_cases e : j = id
    · rw [if_pos e] at hj; cases hj; subst e
      exact .inr ⟨_, upR_same R _ _, rfl, rfl, rfl, .inl ⟨rfl, rfl⟩⟩
    · rw [if_neg e] at hj
      exact .inl ⟨hj, upR_ne R _ e, .inr fun _ _ _ _ _ => rfl⟩
  · intro j j' b b' r r' k o o' hj hj' hd hd' hr hr' hk hk'
    rw [hget_hset] at hj hj'
    by_cases e : j = id
    · subst e; rw [upR_same] at hr; cases hr; cases hk
    · by_cases e' : j' = id
      · subst e'; rw [upR_same] at hr'; cases hr'; cases hk'
      · rw [if_neg e] at hj; rw [if_neg e'] at hj'; rw [upR_ne R _ e] at hr; rw [upR_ne R _ e'] at hr'
        exact hH.inj j j' b b' r r' k o o' hj hj' hd hd' hr hr' hk hk'
  · intro j b r k o hj hd hr hk
    rw [hget_hset] at hj
    by_cases e : j = id
    · subst e; rw [upR_same] at hr; cases hr; cases hk
    · rw [if_neg e] at hj; rw [upR_ne R _ e] at hr
      exact hH.off j b r k o hj hd hr hk
theorem Inv.rename (hI : Inv cx gs N w0 K w R H env a) {R' : Refs} {H' : Heap} (hH : HRel w R' H') (hE : RExt R R') (hO : ∀ k, Own H' R' k → Own H R k) : Inv cx gs N w0 K w R' H' env a :=
  ⟨hH, fun t => (hI.env t).mono (Grow.refl w _) (fun k _ hn hx => hn (hx.imp id (hO k))) hE, fun g hg => (hI.glob g hg).mono (Grow.refl w _) (fun k _ hn hx => hn (hx.imp id (hO k))) (RExt.refl _),
   hI.size, hI.calm, hI.grow, fun k hk ho => hI.own k hk (hO k ho)⟩
theorem room_ok (hI : Inv cx gs N w0 K w R H env a) {t id sz : Nat} (ht : getT env t = .nul) (hid : hget H id = none) : ∃ R', Inv cx gs N w0 K w R' (hset H id (.arr sz [])) ((t, .own id 0 0 0) :: env) a := by
  obtain ⟨h1, h2, h3⟩ := name_ok hI.heap (sz := sz) hid
  have hI2 := hI.rename h1 h2 h3
  refine ⟨_, hI2.heap, fun t' => ?_, hI2.glob, hI2.size, hI2.calm, hI2.grow, hI2.own⟩
  simp only [getT]
  cases hb : Nat.beq t t' with
  | false => exact hI2.env t'
  | true =>
    have := nbeq_iff.1 hb
    subst this
    have hr := hI.env t
    rw [ht] at hr
    generalize a.tmps.getD t undef = u at hr
    cases hr with
    | nul _ ad => exact .ownZ _ id _ ad 0 (upR_same R id _) rfl rfl
theorem recell (hH : HRel w R H) {b : Nat} {cells cells' : List PV} (hb : hget H b = some (.box cells)) (hl : cells'.length = cells.length)
    (hc : ∀ (j : Nat) p p' v, cells[j]? = some p → cells'[j]? = some p' → Rep w (Xof H R) R p v → Rep w (Xof H R) R p' v) :
    HRel w R (hset H b (.box cells')) ∧ ∀ k, Own (hset H b (.box cells')) R k → Own H R k := by
  have hO : ∀ k, Own (hset H b (.box cells')) R k → Own H R k := by
    rintro k ⟨i, c, r, o, h1, h2, h3, h4⟩
    rw [hget_hset] at h1
    by_cases e : i = b
    · subst e; exact ⟨i, _, r, o, hb, rfl, h3, h4⟩
    · rw [if_neg e] at h1; exact ⟨i, c, r, o, h1, h2, h3, h4⟩
  have hX : ∀ k, k < w.heap.size → ¬ Xof H R k → ¬ Xof (hset H b (.box cells')) R k := fun k _ hn hx => hn (hx.imp _root_.id (hO k))
  have old : ∀ i c, hget (hset H b (.box cells')) i = some c → ∃ c0, hget H i = some c0 ∧ (deadB c = false → deadB c0 = false) := by
    intro i c hi
    rw [hget_hset] at hi
    by_cases e : i = b
    · subst e; exact ⟨_, hb, fun _ => rfl⟩
    · rw [if_neg e] at hi; exact ⟨c, hi, fun h => h⟩
  refine ⟨hH.change (Grow.refl w _) (RExt.refl R) hX (fun i hi => ?_) (fun i c hi => ?_) (fun i i' c c' r r' k o o' hi hi' hd hd' => ?_) (fun i c r k o hi hd => ?_), hO⟩
  · rw [hget_hset] at hi
    by_cases e : i = b
    · rw [if_pos e] at hi; cases hi
    · rw [if_neg e] at hi; exact hH.dom i hi
  · rw [hget_hset] at hi
    by_cases e : i = b
    · rw [if_pos e] at hi; cases hi; subst e
      obtain ⟨r, q1, b1, k, base, cs, et, b2, b3, b4, b5⟩ := hH.has i _ hb
      refine .inr ⟨r, q1, b1, k, base, cs, et, b2, b3, by rw [hl]; exact b4, fun j p' hj => ?_⟩
      have hjl : j < cells.length := by rw [← hl]; exact (List.getElem?_eq_some_iff.1 hj).1
      obtain ⟨v, v1, v2, v3⟩ := b5 j cells[j] (by simp)
      exact ⟨v, v1, v2, (hc j cells[j] p' v (by simp) hj v3).mono (Grow.refl w _) hX (RExt.refl R)⟩
    · rw [if_neg e] at hi; exact .inl ⟨hi, rfl, .inr fun _ _ _ _ _ => rfl⟩
  · obtain ⟨c0, h1, h2⟩ := old i c hi
    obtain ⟨c0', h1', h2'⟩ := old i' c' hi'
    exact hH.inj i i' c0 c0' r r' k o o' h1 h1' (h2 hd) (h2' hd')
  · obtain ⟨c0, h1, h2⟩ := old i c hi
    exact hH.off i c0 r k o h1 (h2 hd)
theorem set_get {cells : List PV} {j i : Nat} {q p' : PV} (h : (cells.set j q)[i]? = some p') : (i = j ∧ p' = q) ∨ (i ≠ j ∧ cells[i]? = some p') := by
  rw [List.getElem?_set] at h
  split at h
  · rename_i e
    split at h <;> first | (cases h; done) | skip
    cases h; exact .inl ⟨e.symm, rfl⟩
  · rename_i e; exact .inr ⟨fun h => e h.symm, h⟩
theorem roomC0_ok (hI : Inv cx gs N w0 K w R H env a) {b j id esz : Nat} {cells : List PV} (hb : hget H b = some (.box cells)) (hj : cells[j]? = some .nul) (hid : hget H id = none) :
    ∃ R', Inv cx gs N w0 K w R' (hset (hset H b (.box (cells.set j (.own id 0 0 0)))) id (.arr esz [])) env a := by
  obtain ⟨h1, h2, h3⟩ := name_ok hI.heap (sz := esz) hid
  have hI2 := hI.rename h1 h2 h3
  have hne : b ≠ id := fun e => by subst e; rw [hb] at hid; cases hid
  have hb2 : hget (hset H id (.arr esz [])) b = some (.box cells) := by rw [hget_hset, if_neg hne]; exact hb
  obtain ⟨g1, g2⟩ := recell hI2.heap (cells' := cells.set j (.own id 0 0 0)) hb2 (by simp) (fun i p p' v hp hp' hr => by
    rcases set_get hp' with ⟨rfl, rfl⟩ | ⟨_, h⟩
    · rw [hj] at hp; cases hp
      cases hr with
      | nul _ ad => exact .ownZ _ id _ ad 0 (upR_same R id _) rfl rfl
    · rw [h] at hp; cases hp; exact hr)
  refine ⟨_, (hI2.rename g1 (RExt.refl _) g2).congr (fun i => ?_) (fun _ => rfl)⟩
  simp only [hget_hset]
  by_cases e1 : i = b
  · subst e1; simp [hne]
  · simp [e1]
theorem roomC1_ok (hI : Inv cx gs N w0 K w R H env a) {b j id x len sz : Nat} {cells : List PV} {rows : List (List PV)} (hb : hget H b = some (.box cells)) (hj : cells[j]? = some (.own x 0 len len)) (hx : hget H x = some (.arr sz rows))
    (hid : hget H id = none) (hl : rows.length = len) : ∃ R', Inv cx gs N w0 K w R' (hset (hset (hset H b (.box (cells.set j (.own id 0 len len)))) x .dead) id (.arr sz rows)) env a := by
  have hH := hI.heap
  obtain ⟨r, hr, hB⟩ := hH.has x _ hx
  have hRid := hH.dom id hid
  have hbx : b ≠ x := fun e => by subst e; rw [hb] at hx; cases hx
  have hbi : b ≠ id := fun e => by subst e; rw [hb] at hid; cases hid
  have hxi : x ≠ id := fun e => by subst e; rw [hx] at hid; cases hid
  have hRE : RExt R (upR R id r) := RExt.new hRid r
  have hg : ∀ i, hget (hset (hset (hset H b (.box (cells.set j (.own id 0 len len)))) x .dead) id (.arr sz rows)) i =
      if i = id then some (.arr sz rows) else if i = x then some .dead else if i = b then some (.box (cells.set j (.own id 0 len len))) else hget H i := fun i => by simp only [hget_hset]
  have old : ∀ i c q k o, hget (hset (hset (hset H b (.box (cells.set j (.own id 0 len len)))) x .dead) id (.arr sz rows)) i = some c → deadB c = false → upR R id r i = some q → q.blk = some (k, o) →
      ∃ i0 c0, hget H i0 = some c0 ∧ deadB c0 = false ∧ R i0 = some q ∧ liveB c0 = liveB c ∧ (if i = id then i0 = x else (i0 = i ∧ i ≠ x)) := by
    intro i c q k o hi hd hq hk
    rw [hg] at hi
    by_cases e1 : i = id
    · rw [if_pos e1] at hi; simp only [if_pos e1]; cases hi; subst e1; rw [upR_same] at hq; cases hq
      exact ⟨x, _, hx, rfl, hr, rfl, rfl⟩
    · rw [if_neg e1] at hi; simp only [if_neg e1]; rw [upR_ne R r e1] at hq
      by_cases e2 : i = x
      · rw [if_pos e2] at hi; cases hi; cases hd
      · rw [if_neg e2] at hi
        by_cases e3 : i = b
        · rw [if_pos e3] at hi; cases hi; subst e3; exact ⟨i, _, hb, rfl, hq, rfl, rfl, e2⟩
        · rw [if_neg e3] at hi; exact ⟨i, c, hi, hd, hq, rfl, rfl, e2⟩
  have hO : ∀ k, Own (hset (hset (hset H b (.box (cells.set j (.own id 0 len len)))) x .dead) id (.arr sz rows)) (upR R id r) k → Own H R k := by
    rintro k ⟨i, c, q, o, h1, h2, h3, h4⟩
    obtain ⟨i0, c0, q1, _, q3, q4, _⟩ := old i c q k o h1 (live_dead h2) h3 h4
    exact ⟨i0, c0, q, o, q1, by rw [q4]; exact h2, q3, h4⟩
  have hX : ∀ k, k < w.heap.size → ¬ Xof H R k → ¬ Xof (hset (hset (hset H b (.box (cells.set j (.own id 0 len len)))) x .dead) id (.arr sz rows)) (upR R id r) k := fun k _ hn hxx => hn (hxx.imp _root_.id (hO k))
  refine ⟨upR R id r, hI.rename (hH.change (Grow.refl w _) hRE hX (fun i hi => ?_) (fun i c hi => ?_) (fun i i' c c' q q' k o o' hi hi' hd hd' hq hq' hk hk' => ?_) (fun i c q k o hi hd hq hk => ?_)) hRE hO⟩
  · rw [hg] at hi
    by_cases e1 : i = id
    · rw [if_pos e1] at hi; cases hi
    · rw [if_neg e1] at hi; rw [upR_ne R r e1]
      by_cases e2 : i = x
      · rw [if_pos e2] at hi; cases hi
      · rw [if_neg e2] at hi
        by_cases e3 : i = b
        · rw [if_pos e3] at hi; cases hi
        · rw [if_neg e3] at hi; exact hH.dom i hi
  · rw [hg] at hi
    by_cases e1 : i = id
    · rw [if_pos e1] at hi; cases hi; subst e1
      exact .inr ⟨r, upR_same R _ r, BRel.mono (b := .arr sz rows) (Grow.refl w _) hX hRE (fun _ _ _ => rfl) hB⟩
    · rw [if_neg e1] at hi
      by_cases e2 : i = x
      · rw [if_pos e2] at hi; cases hi; subst e2
        exact .inr ⟨r, by rw [upR_ne R r e1]; exact hr, trivial⟩
      · rw [if_neg e2] at hi
        by_cases e3 : i = b
        · rw [if_pos e3] at hi; cases hi; subst e3
          obtain ⟨rb, q1, b1, k, base, cs, et, b2, b3, b4, b5⟩ := hH.has i _ hb
          refine .inr ⟨rb, by rw [upR_ne R r e1]; exact q1, b1, k, base, cs, et, b2, b3, by simpa using b4, fun p pv hp => ?_⟩
          rcases set_get hp with ⟨rfl, rfl⟩ | ⟨_, h⟩
          · obtain ⟨v, v1, v2, v3⟩ := b5 _ _ hj
            refine ⟨v, v1, v2, ?_⟩
            have hcl : r.cl = len := by
              have : r.cl = rows.length := hB.2.1
              omega
            cases v3 with
            | own _ _ rr k base off _ _ c cs et fr h hbb hll hk h1 h2 h3 hw h4 =>
              rw [hr] at h; cases h
              exact .own _ id r k base 0 len len c cs et fr (upR_same R id r) hbb hll hk h1 h2 h3 hw h4
            | ownZ _ _ rr ad _ h hbb hll =>
              rw [hr] at h; cases h
              exact .ownZ _ id r ad 0 (upR_same R id r) hbb hll
            | ownS _ _ rr _ _ _ _ h hbb hll h1 =>
              rw [hr] at h; cases h
              omega
          · obtain ⟨v, v1, v2, v3⟩ := b5 p pv h
            exact ⟨v, v1, v2, v3.mono (Grow.refl w _) hX hRE⟩
        · rw [if_neg e3] at hi
          exact .inl ⟨hi, upR_ne R r e1, .inr fun _ _ _ _ _ => rfl⟩
  · obtain ⟨i0, c0, q1, q2, q3, _, q5⟩ := old i c q k o hi hd hq hk
    obtain ⟨i0', c0', q1', q2', q3', _, q5'⟩ := old i' c' q' k o' hi' hd' hq' hk'
    have := hH.inj i0 i0' c0 c0' q q' k o o' q1 q1' q2 q2' q3 q3' hk hk'
    subst this
    by_cases e1 : i = id <;> by_cases e2 : i' = id
    · rw [e1, e2]
    · rw [if_pos e1] at q5; rw [if_neg e2] at q5'
      exact (q5'.2 (q5'.1 ▸ q5)).elim
    · rw [if_neg e1] at q5; rw [if_pos e2] at q5'
      exact (q5.2 (q5.1 ▸ q5')).elim
    · rw [if_neg e1] at q5; rw [if_neg e2] at q5'
      exact q5.1.symm.trans q5'.1
  · obtain ⟨i0, c0, q1, q2, q3, _, _⟩ := old i c q k o hi hd hq hk
    exact hH.off i0 c0 q k o q1 q2 q3 hk
theorem gh_ok (hI : Inv cx gs N w0 K w R H env a) {g : Gh} {env' : Env} {H' : Heap} (he : evGh g env H = some (env', H')) : ∃ R', Inv cx gs N w0 K w R' H' env' a := by
  cases g with
  | keep ts ids =>
    simp only [evGh] at he
    split at he <;> first | (cases he; done) | skip
    rename_i e h h1 h2
    split at he <;> cases he
    exact keep_ok hI h1 h2
  | room t id esz =>
    simp only [evGh] at he
    split at he <;> cases he
    · rename_i h1 h2
      exact room_ok hI h1 h2
    · exact ⟨R, hI⟩
  | roomC b j id esz =>
    simp only [evGh] at he
    split at he <;> first | (cases he; done) | skip
    rename_i cells hb
    split at he <;> first | (cases he; done) | skip
    · rename_i hj
      split at he <;> cases he
      rename_i hid
      exact roomC0_ok hI hb hj hid
    · rename_i x off len cl hj
      split at he
      · cases he; exact ⟨R, hI⟩
      · split at he <;> first | (cases he; done) | skip
        rename_i sz rows hx hid
        split at he <;> cases he
        rename_i h1 h2 h3
        have h2 := nbeq_iff.1 h2
        have h1 := nbeq_iff.1 h1
        have h3 := nbeq_iff.1 h3
        subst h2; subst h3
        exact roomC1_ok hI hb hj hx hid h1
end
end Go.Ev
namespace Go.Ev
open Go
set_option linter.unusedSectionVars false
set_option linter.unusedSimpArgs false
set_option linter.unusedVariables false
variable [Frame]
def toExit : Ex → Exit
  | .nor => .normal
  | .exit id => .exit id
  | .ret => .ret
def mCode (P : Program) (gs : List Nat) (N : Nat) : IC → Code → Bool
  | .seq a b, c => match a with
    | .gh _ => mCode P gs N b c
    | a => match c with
      | .seq x y => mCode P gs N a x && mCode P gs N b y
      | _ => false
  | .skip, c => match c with | .skip => true | _ => false
  | .reg os, c => match c with
    | .region _ ops draw => !draw && mAll P gs N ops ops.toList os
    | _ => false
  | .dreg os chk, c => match c with
    | .region _ ops draw => draw && mAll P gs N ops ops.toList os && mDraw ops os chk
    | _ => false
  | .gh _, _ => false
  | .cond c' a b, c => match c with
    | .cond x p q => mOpd gs x c' && mCode P gs N a p && mCode P gs N b q
    | _ => false
  | .block id b, c => match c with
    | .block i x => Nat.beq i id && mCode P gs N b x
    | _ => false
  | .loop b, c => match c with
    | .loop x => mCode P gs N b x
    | _ => false
  | .exit id, c => match c with
    | .exit i => Nat.beq i id
    | _ => false
  | .ret, c => match c with
    | .ret => true
    | _ => false
  | .stop, _ => false
section
variable {P : Program} {cx : Cx} {gs : List Nat} {N : Nat} {w0 : World} {K : Nat → Prop}
def CodeOK (P : Program) (cx : Cx) (gs : List Nat) (N : Nat) (w0 : World) (K : Nat → Prop) (c : Code) (f : Env → Heap → Out) : Prop :=
  ∀ (w : World) (R : Refs) (H : Heap) (env : Env) (a : Act) (ex : Ex) (env' : Env) (H' : Heap), Inv cx gs N w0 K w R H env a → f env H = some (ex, env', H') →
    ∀ (Q : Exit → Act → World → Prop), (∀ a' w' R', Inv cx gs N w0 K w' R' H' env' a' → Q (toExit ex) a' w') → c.wp P Q a w
theorem CodeOK.use {c : Code} {f : Env → Heap → Out} (h : CodeOK P cx gs N w0 K c f) {w : World} {R : Refs} {H : Heap} {env : Env} {a : Act} {ex : Ex} {env' : Env} {H' : Heap} (hI : Inv cx gs N w0 K w R H env a)
    (he : f env H = some (ex, env', H')) {Q : Exit → Act → World → Prop} (hQ : ∀ a' w' R', Inv cx gs N w0 K w' R' H' env' a' → Q (toExit ex) a' w') : c.wp P Q a w := h _ _ _ _ _ _ _ _ hI he _ hQ
theorem loop_ok {c : Code} {f : Env → Heap → Out} (hc : CodeOK P cx gs N w0 K c f) : ∀ n : Nat, CodeOK P cx gs N w0 K (.loop c) (iter n f) := by
  have key : ∀ (n : Nat) {w : World} {R : Refs} {H : Heap} {env : Env} {a : Act} {ex : Ex} {env' : Env} {H' : Heap}, Inv cx gs N w0 K w R H env a → iter n f env H = some (ex, env', H') →
      ∀ {Q : Exit → Act → World → Prop}, (∀ a' w' R', Inv cx gs N w0 K w' R' H' env' a' → Q (toExit ex) a' w') → ∀ (b : Go.Frame) (k : List Item) (cs : List Go.Frame),
      ∃ e a' w', Q e a' w' ∧ Arrives P (lone (b.at a (.code c :: .inLoop c :: k)) cs w) b k cs e a' w' := by
    intro n
    induction n with
    | zero => intro w R H env a ex env' H' _ he; cases he
    | succ n ih =>
      intro w R H env a ex env' H' hI he Q hQ b k cs
      simp only [iter] at he
      cases hf : f env H with
      | none => rw [hf] at he; cases he
      | some r =>
        obtain ⟨ex1, env1, H1⟩ := r
        rw [hf] at he
        cases ex1 with
        | nor =>
          simp only at he
          obtain ⟨e, a₁, w₁, hq, harr⟩ := hc.use hI hf (Q := fun e a' w' => e = .normal ∧ ∃ R', Inv cx gs N w0 K w' R' H1 env1 a') (fun a' w' R' h => ⟨rfl, R', h⟩) b (.inLoop c :: k) cs
          obtain ⟨rfl, R', hI'⟩ := hq
          obtain ⟨e₂, a₂, w₂, hq₂, harr₂⟩ := ih hI' he hQ b k cs
          exact ⟨e₂, a₂, w₂, hq₂, .of_steps (Steps.trans harr (.one step_inLoop)) harr₂⟩
        | exit id =>
          simp only at he; cases he
          obtain ⟨e, a₁, w₁, hq, harr⟩ := hc.use hI hf (Q := fun e a' w' => e = .exit id ∧ Q e a' w') (fun a' w' R' h => ⟨rfl, hQ a' w' R' h⟩) b (.inLoop c :: k) cs
          obtain ⟨rfl, hq⟩ := hq
          exact ⟨_, a₁, w₁, hq, .pass (x := .inLoop c) rfl (fun _ _ => .inl (by simp)) harr⟩
        | ret =>
          simp only at he; cases he
          obtain ⟨e, a₁, w₁, hq, harr⟩ := hc.use hI hf (Q := fun e a' w' => e = .ret ∧ Q e a' w') (fun a' w' R' h => ⟨rfl, hQ a' w' R' h⟩) b (.inLoop c :: k) cs
          obtain ⟨rfl, hq⟩ := hq
          exact ⟨_, a₁, w₁, hq, .pass (x := .inLoop c) rfl (fun _ _ => .inl (by simp)) harr⟩
  intro n w R H env a ex env' H' hI he Q hQ b k cs
  obtain ⟨e, a', w', hq, harr⟩ := key n hI he hQ b k cs
  exact ⟨e, a', w', hq, .of_steps (.one step_loop) harr⟩
theorem code_ok (hP : P.follows .mixedOrders = true) (hcall : ∀ f, FnOK P cx.glob gs cx.call f) (n : Nat) : ∀ (ic : IC) (c : Code), mCode P gs N ic c = true → CodeOK P cx gs N w0 K c (evCode cx (iter n) ic)
  | .skip, c, hm => by
    intro w R H env a ex env' H' hI he Q hQ
    simp only [mCode] at hm
    split at hm <;> first | (cases hm; done) | skip
    simp only [evCode] at he; cases he
    exact wp_skip (hQ a w R hI)
  | .reg os, c, hm => by
    intro w R H env a ex env' H' hI he Q hQ
    simp only [mCode] at hm
    split at hm <;> first | (cases hm; done) | skip
    rename_i id ops draw
    simp only [Bool.and_eq_true, Bool.not_eq_true'] at hm
    obtain ⟨rfl, hm⟩ := hm
    simp only [evCode] at he
    split at he <;> cases he
    rename_i he
    exact region_ok hcall hm hI he hQ
  | .dreg os chk, c, hm => by
    intro w R H env a ex env' H' hI he Q hQ
    simp only [mCode] at hm
    split at hm <;> first | (cases hm; done) | skip
    rename_i id ops draw
    simp only [Bool.and_eq_true] at hm
    obtain ⟨⟨rfl, hm⟩, hd⟩ := hm
    simp only [evCode] at he
    split at he <;> first | (cases he; done) | skip
    rename_i l hl
    split at he <;> cases he
    rename_i hap
    exact draw_ok hP hcall hm hd hI hl hap hQ
  | .gh g, c, hm => by simp [mCode] at hm
  | .seq a b, c, hm => by
    intro w R H env act ex env' H' hI he Q hQ
    have two : ∀ x y, c = .seq x y → mCode P gs N a x = true → mCode P gs N b y = true → c.wp P Q act w := by
      rintro x y rfl h1 h2
      refine wp_seq ?_
      simp only [evCode] at he
      split at he
      · rename_i env1 H1 h3
        exact (code_ok hP hcall n a x h1).use hI h3 fun a' w' R' hI' => (code_ok hP hcall n b y h2).use hI' he hQ
      · rename_i hne
        refine (code_ok hP hcall n a x h1).use hI he fun a' w' R' hI' => ?_
        have := hQ a' w' R' hI'
        cases ex with
        | nor => exact absurd he (hne _ _)
        | exit id => exact this
        | ret => exact this
    cases a with
    | gh g =>
      simp only [mCode] at hm
      simp only [evCode] at he
      split at he
      · rename_i env1 H1 h3
        split at h3 <;> cases h3
        rename_i h4
        obtain ⟨R', hI'⟩ := gh_ok hI h4
        exact (code_ok hP hcall n b c hm).use hI' he hQ
      · rename_i r hne
        cases hg : evGh g env H with
        | none => rw [hg] at he; cases he
        | some z => obtain ⟨env1, H1⟩ := z; exact absurd (by rw [hg]) (hne env1 H1)
    | _ =>
      simp only [mCode] at hm
      split at hm <;> first | (cases hm; done) | (rename_i x y; simp only [Bool.and_eq_true] at hm; exact two x y rfl (by simpa only [mCode] using hm.1) hm.2)
  | .cond c' p q, c, hm => by
    intro w R H env a ex env' H' hI he Q hQ
    simp only [mCode] at hm
    split at hm <;> first | (cases hm; done) | skip
    rename_i x y z
    simp only [Bool.and_eq_true] at hm
    obtain ⟨⟨h1, h2⟩, h3⟩ := hm
    have hr := opd_rep hI.env hI.glob h1
    simp only [evCode] at he
    split at he <;> first | (cases he; done) | skip
    rename_i b hb
    rw [hb] at hr
    generalize hv : a.eval x = v at hr
    cases hr
    split at he
    · exact wp_cond_true hv ((code_ok hP hcall n p y h2).use hI he hQ)
    · exact wp_cond_false hv ((code_ok hP hcall n q z h3).use hI he hQ)
  | .block id b, c, hm => by
    intro w R H env a ex env' H' hI he Q hQ
    simp only [mCode] at hm
    split at hm <;> first | (cases hm; done) | skip
    rename_i i x
    simp only [Bool.and_eq_true] at hm
    have hid := nbeq_iff.1 hm.1
    subst hid
    refine wp_block ?_
    simp only [evCode] at he
    split at he
    · rename_i j env1 H1 h3
      split at he
      · rename_i hb
        cases he
        have := nbeq_iff.1 hb
        subst this
        exact (code_ok hP hcall n b x hm.2).use hI h3 fun a' w' R' hI' => by
          simpa [Exit.inBlock, toExit] using hQ a' w' R' hI'
      · rename_i hb
        cases he
        have := nbeq_false hb
        exact (code_ok hP hcall n b x hm.2).use hI h3 fun a' w' R' hI' => by
          simpa [Exit.inBlock, toExit, this] using hQ a' w' R' hI'
    · rename_i hne
      refine (code_ok hP hcall n b x hm.2).use hI he fun a' w' R' hI' => ?_
      have := hQ a' w' R' hI'
      cases ex with
      | nor => exact this
      | exit id => exact absurd he (hne _ _ _)
      | ret => exact this
  | .loop b, c, hm => by
    intro w R H env a ex env' H' hI he Q hQ
    simp only [mCode] at hm
    split at hm <;> first | (cases hm; done) | skip
    rename_i x
    exact (loop_ok (code_ok hP hcall n b x hm) n).use hI (by simpa only [evCode] using he) hQ
  | .exit id, c, hm => by
    intro w R H env a ex env' H' hI he Q hQ
    simp only [mCode] at hm
    split at hm <;> first | (cases hm; done) | skip
    rename_i i
    have := nbeq_iff.1 hm
    subst this
    simp only [evCode] at he; cases he
    exact wp_exit (hQ a w R hI)
  | .ret, c, hm => by
    intro w R H env a ex env' H' hI he Q hQ
    simp only [mCode] at hm
    split at hm <;> first | (cases hm; done) | skip
    simp only [evCode] at he; cases he
    exact wp_ret (hQ a w R hI)
  | .stop, c, hm => by simp [mCode] at hm
end
end Go.Ev
namespace Go.Ev
open Go
set_option linter.unusedSectionVars false
set_option linter.unusedSimpArgs false
set_option linter.unusedVariables false
section
variable [Frame]
variable {w : World}
def idh : Nat → Nat → List (Nat × Nat)
  | _, 0 => []
  | p, n + 1 => (p, p) :: idh (p + 1) n
theorem adopt_idh : ∀ (n p i : Nat), p ≤ i → i < p + n → ∀ (sz : Nat) (rows : List (List PV)), adopt (idh p n) i (.fresh sz rows) = (.own i 0 rows.length rows.length, [(i, .arr sz rows)])
  | 0, p, i, h1, h2, _, _ => by omega
  | n + 1, p, i, h1, h2, sz, rows => by
    simp only [idh, adopt]
    cases hb : Nat.beq p i with
    | true => have := nbeq_iff.1 hb; subst this; rfl
    | false =>
      have := nbeq_false hb
      exact adopt_idh n (p + 1) i (by omega) (by omega) sz rows
def noIo : PV → Bool
  | .io _ => false
  | _ => true
theorem enter_eq (hints : List (Nat × Nat)) : ∀ (ps : List PV) (p : Nat), (∀ x ∈ ps, noIo x = true) → (∀ i, p ≤ i → i < p + ps.length → ∀ sz rows, adopt hints i (.fresh sz rows) = (.own i 0 rows.length rows.length, [(i, .arr sz rows)])) →
    (enter p ps).2 = (adoptL hints p ps).2 ∧ (∀ i q, (adoptL hints p ps).1[i]? = some q → getT (enter p ps).1 (p + i) = q) ∧ (∀ t, t < p ∨ p + ps.length ≤ t → getT (enter p ps).1 t = .any) ∧
      (keys (adoptL hints p ps).2).Nodup ∧ ∀ j ∈ keys (adoptL hints p ps).2, p ≤ j
  | [], p, _, _ => ⟨rfl, fun i q h => by simp [adoptL] at h, fun t _ => rfl, List.nodup_nil, fun j hj => by cases hj⟩
  | x :: ps, p, hx, hh => by
    obtain ⟨e1, e2, e3, e4, e5⟩ := enter_eq hints ps (p + 1) (fun y hy => hx y (.tail _ hy)) (fun i h1 h2 => hh i (by omega) (by simp; omega))
    have step : ∀ (v : PV) (u : List (Nat × Blk)), adopt hints p x = (v, u) → enter p (x :: ps) = ((p, v) :: (enter (p + 1) ps).1, u ++ (enter (p + 1) ps).2) → (∀ j ∈ keys u, j = p) → (keys u).Nodup →
        (enter p (x :: ps)).2 = (adoptL hints p (x :: ps)).2 ∧ (∀ i q, (adoptL hints p (x :: ps)).1[i]? = some q → getT (enter p (x :: ps)).1 (p + i) = q) ∧ (∀ t, t < p ∨ p + (x :: ps).length ≤ t → getT (enter p (x :: ps)).1 t = .any) ∧
          (keys (adoptL hints p (x :: ps)).2).Nodup ∧ ∀ j ∈ keys (adoptL hints p (x :: ps)).2, p ≤ j := by
      intro v u ha he hu hun
      rw [he]
      simp only [adoptL, ha]
      refine ⟨by rw [e1], fun i q hq => ?_, fun t ht => ?_, ?_, fun j hj => ?_⟩
      · cases i with
        | zero => simp at hq; subst hq; simp [getT]
        | succ i =>
          simp at hq
          have hne : Nat.beq p (p + (i + 1)) = false := by
            cases hb : Nat.beq p (p + (i + 1)) with
            | false => rfl
            | true => have := nbeq_iff.1 hb; omega
          simp only [getT, hne]
          rw [show p + (i + 1) = p + 1 + i by omega]
          exact e2 i q hq
      · have hne : Nat.beq p t = false := by
          cases hb : Nat.beq p t with
          | false => rfl
          | true => have := nbeq_iff.1 hb; simp at ht; omega
        simp only [getT, hne]
        exact e3 t (by simp at ht; omega)
      · rw [keys_append]
        refine List.nodup_append.2 ⟨hun, e4, fun a ha b hb => ?_⟩
        have := hu a ha; have := e5 b hb; omega
      · rw [keys_append] at hj
        rcases List.mem_append.1 hj with h | h
        · have := hu j h; omega
        · have := e5 j h; omega
    cases x with
    | fresh sz rows =>
      refine step _ _ (hh p (Nat.le_refl _) (by simp) sz rows) rfl (fun j hj => ?_) ?_
      · simpa [keys] using hj
      · simp [keys]
    | io cs => have := hx (.io cs) (.head _); cases this
    | _ => exact step _ _ (adopt_plain hints p rfl) rfl (fun j hj => by cases hj) List.nodup_nil
theorem ListR.noIo {Z : Nat → Prop} : ∀ {ps : List PV} {vs : List Value} {ks : List Nat}, ListR w Z ps vs ks → (∀ x ∈ ps, noIo x = true) ∧ ps.length = vs.length
  | [], _, _, h => by cases h; exact ⟨fun x hx => (by cases hx), rfl⟩
  | p :: ps, _, _, h => by
    cases h with
    | cons _ v k1 _ vs k2 hc hr =>
      obtain ⟨h1, h2⟩ := ListR.noIo hr
      refine ⟨fun x hx => ?_, by simp [h2]⟩
      cases hx with
      | head => cases hc with
        | plain _ _ hb _ => cases p <;> first | rfl | cases hb
        | fresh => rfl
      | tail _ hx => exact h1 x hx
theorem lentOf_nil : ∀ {ps : List PV} {p : Nat} {zs : List (List Nat)}, (∀ x ∈ ps, noIo x = true) → lentOf p ps zs = []
  | [], _, _, _ => by unfold lentOf; rfl
  | x :: ps, p, zs, h => by
    have h0 := h x (.head _)
    have ih := fun zs => lentOf_nil (ps := ps) (p := p + 1) (zs := zs) fun y hy => h y (.tail _ hy)
    cases zs with
    | nil => cases x <;> first | (cases h0; done) | exact ih _
    | cons z zs => cases x <;> first | (cases h0; done) | exact ih _
theorem clo2_nt {H : Heap} {p q : PV} {ids : List Nat} (h : clo2 H p = some (q, ids)) : isBorder q = false ∧ ∀ vs, q ≠ .tuple vs := by
  have h1 : ∀ {p q : PV} {ids : List Nat}, clo1 H p = some (q, ids) → isBorder q = false ∧ ∀ vs, q ≠ .tuple vs := by
    intro p q ids h
    unfold clo1 at h
    split at h <;> first | (cases h; done) | (cases h; exact ⟨rfl, fun vs e => by cases e⟩) | skip
    · split at h <;> first | (cases h; done) | skip
      · split at h <;> cases h; exact ⟨rfl, fun vs e => by cases e⟩
      · split at h <;> cases h; exact ⟨rfl, fun vs e => by cases e⟩
    · cases h
      cases p <;> first | exact ⟨rfl, fun vs e => PV.noConfusion e⟩ | (simp_all; done)
  have hP : ∀ {p q : PV} {ids : List Nat}, cloP H p = some (q, ids) → isBorder q = false ∧ ∀ vs, q ≠ .tuple vs := by
    intro p q ids h
    unfold cloP at h
    split at h
    · split at h <;> first | (cases h; done) | skip
      split at h <;> first | (cases h; done) | skip
      split at h <;> cases h
      exact ⟨rfl, fun vs e => by cases e⟩
    · exact h1 h
  unfold clo2 at h
  split at h
  · cases hl : cloL H ‹_› <;> rw [hl] at h <;> cases h; exact ⟨rfl, fun vs e => by cases e⟩
  · cases hl : cloPs H ‹_› <;> rw [hl] at h <;> cases h; exact ⟨rfl, fun vs e => by cases e⟩
  · cases hl : cloL H ‹_› <;> rw [hl] at h <;> cases h; exact ⟨rfl, fun vs e => by cases e⟩
  · cases hl : clo1 H ‹_› <;> rw [hl] at h <;> cases h; exact ⟨rfl, fun vs e => by cases e⟩
  · exact hP h
end
section
variable [Frame]
variable {w : World} {R : Refs} {H : Heap}
theorem give1_rep (hH : HRel w R H) {seen : List Nat} {g : Option Nat} {p q : PV} {x s : List Nat} {v : Value} (h : give1 g H p = some (q, x, s)) (hs : ∀ i ∈ s, i ∈ seen) (hv : Rep w (Xof H R) R p v) :
    (∀ vs, q ≠ .tuple vs) ∧ ∃ ks, CellR w (Zof H R seen) q v ks ∧ KsOf R x ks ∧ ∀ i ∈ x, ∃ sz rows, hget H i = some (.arr sz rows) := by
  have plain : ∀ {q : PV} {x s : List Nat}, (match clo2 H p with | some (a, x) => some (a, [], x) | none => none) = some (q, x, s) → (∀ i ∈ s, i ∈ seen) →
      (∀ vs, q ≠ .tuple vs) ∧ ∃ ks, CellR w (Zof H R seen) q v ks ∧ KsOf R x ks ∧ ∀ i ∈ x, ∃ sz rows, hget H i = some (.arr sz rows) := by
    intro q x s h hs
    split at h <;> cases h
    rename_i hc
    obtain ⟨b1, b2⟩ := clo2_nt hc
    exact ⟨b2, [], .plain _ _ b1 (clo2_rep hH hc ((shown_Z seen).mono hs) hv), .nil, fun i hi => by cases hi⟩
  unfold give1 at h
  split at h
  · cases h; cases hv
    exact ⟨fun vs e => (by cases e), [], .fresh _ _ _ _ (.none _ rfl), .nil, fun i hi => (by cases hi)⟩
  · split at h <;> cases h
    rename_i hm
    obtain ⟨ks, k1, k2, k3⟩ := mov1_rep hH (Z := Zof H R seen) (fun _ hk => hk.1) hm hv
    refine ⟨fun vs e => ?_, ks, k1, k2, k3⟩
    simp only [mov1] at hm
    split at hm <;> first | (cases hm; done) | skip
    split at hm <;> cases hm
    cases e
  · exact plain h hs
theorem gives1_rep (hH : HRel w R H) {seen : List Nat} : ∀ {ps : List PV} {gs : List Nat} {qs : List PV} {x s : List Nat} {vs : List Value}, gives1 H gs ps = some (qs, x, s) → (∀ i ∈ s, i ∈ seen) → ps.length = vs.length →
    (∀ (i : Nat) p v, ps[i]? = some p → vs[i]? = some v → Rep w (Xof H R) R p v) →
    (∀ q ∈ qs, ∀ us, q ≠ .tuple us) ∧ ∃ ks, ListR w (Zof H R seen) qs vs ks ∧ KsOf R x ks ∧ ∀ i ∈ x, ∃ sz rows, hget H i = some (.arr sz rows)
  | [], gs, qs, x, s, vs, h, _, hl, _ => by
    have : vs = [] := by simpa using hl.symm
    subst this
    have h : (some ([], [], []) : Option (List PV × List Nat × List Nat)) = some (qs, x, s) := by
      cases gs <;> simpa [gives1] using h
    cases h
    exact ⟨fun q hq => (by cases hq), [], .nil, .nil, fun i hi => (by cases hi)⟩
  | p :: ps, gs, qs, x, s, [], _, _, hl, _ => by simp at hl
  | p :: ps, gs, qs, x, s, v :: vs, h, hs, hl, hv => by
    have go : ∀ (g : Option Nat) (gs' : List Nat) (a : PV) (x1 s1 : List Nat) (b : List PV) (y t : List Nat), give1 g H p = some (a, x1, s1) → gives1 H gs' ps = some (b, y, t) → qs = a :: b → x = x1 ++ y → s = s1 ++ t →
        (∀ q ∈ qs, ∀ us, q ≠ .tuple us) ∧ ∃ ks, ListR w (Zof H R seen) qs (v :: vs) ks ∧ KsOf R x ks ∧ ∀ i ∈ x, ∃ sz rows, hget H i = some (.arr sz rows) := by
      rintro g gs' a x1 s1 b y t h1 h2 rfl rfl rfl
      obtain ⟨n1, k1, c1, c2, c3⟩ := give1_rep hH h1 (fun i hi => hs i (List.mem_append_left _ hi)) (hv 0 p v rfl rfl)
      obtain ⟨n2, k2, d1, d2, d3⟩ := gives1_rep hH h2 (fun i hi => hs i (List.mem_append_right _ hi)) (by simpa using hl) (fun i p' v' h3 h4 => hv (i + 1) p' v' (by simpa using h3) (by simpa using h4))
      refine ⟨fun q hq => ?_, k1 ++ k2, .cons _ _ _ _ _ _ c1 d1, c2.append d2, fun i hi => ?_⟩
      · cases hq with
        | head => exact n1
        | tail _ hq => exact n2 q hq
      · rcases List.mem_append.1 hi with hi | hi
        · exact c3 i hi
        · exact d3 i hi
    cases gs with
    | nil =>
      simp only [gives1] at h
      split at h <;> first | (cases h; done) | skip
      rename_i h1
      split at h <;> cases h
      rename_i h2
      exact go none [] _ _ _ _ _ _ h1 h2 rfl rfl rfl
    | cons z zs =>
      simp only [gives1] at h
      split at h <;> first | (cases h; done) | skip
      rename_i h1
      split at h <;> cases h
      rename_i h2
      exact go (some z) zs _ _ _ _ _ _ h1 h2 rfl rfl rfl
end
end Go.Ev
namespace Go.Ev
open Go
set_option linter.unusedSectionVars false
set_option linter.unusedSimpArgs false
set_option linter.unusedVariables false
def mRes (P : Program) : ResultVar → Res → Bool
  | .tmp t, .t i => Nat.beq t i
  | .cell a t, .m i sz agg => Nat.beq a i && decide (tySize P t = some sz) && decide (tyAgg P t = some agg)
  | _, _ => false
def mRess (P : Program) : List ResultVar → List Res → Bool
  | [], [] => true
  | r :: rs, q :: qs => mRes P r q && mRess P rs qs
  | _, _ => false
def mFn (P : Program) (gs : List Nat) (f : FuncId) (fn : IFn) : Bool :=
  match P.funcs[f]? with
  | some pf => match pf.body with
    | some c => mCode P gs pf.ntmps fn.body c && mRess P pf.results.toList fn.res && Nat.ble fn.np pf.ntmps && ownFn P f
    | none => false
  | none => false
section
variable [Frame]
variable {P : Program} {w : World} {R : Refs} {H : Heap} {env : Env} {tmps : Array Value}
def resultOf (tmps : Array Value) : ResultVar → Sem Value
  | .tmp t => pure (tmps.getD t undef)
  | .cell a t => do loadVar t (← asAddr (tmps.getD a undef))
theorem resultOf_ok (hH : HRel w R H) (hE : ERel w R H env tmps) {r : ResultVar} {q : Res} (hm : mRes P r q = true) (hq : getR env H q ≠ .io []) :
    ∃ v, (resultOf tmps r).run P w = .ok v w ∧ Rep w (Xof H R) R (getR env H q) v := by
  cases r with
  | tmp t => cases q with
    | t i =>
      have := nbeq_iff.1 hm
      subst this
      exact ⟨_, by simp [resultOf], hE t⟩
    | m => cases hm
  | cell a t => cases q with
    | t i => cases hm
    | m i sz agg =>
      simp only [mRes, Bool.and_eq_true, decide_eq_true_eq] at hm
      obtain ⟨⟨h1, h2⟩, h3⟩ := hm
      have := nbeq_iff.1 h1
      subst this
      simp only [getR] at hq ⊢
      have hr := hE a
      generalize hv : tmps.getD a undef = v at hr
      split at hq
      · rename_i id j hp
        rw [hp] at hr
        cases hr with
        | ptr _ _ b k base _ h hb hk =>
          split at hq
          · rename_i cells hg
            obtain ⟨r', q1, _, k', base', cs, et, q2, q3, q4, q5⟩ := hH.has id _ hg
            rw [h] at q1; cases q1
            rw [hk] at q2; cases q2
            split at hq
            · rename_i p hrd
              obtain ⟨u, u1, u2⟩ := load_from (P := P) (t := t) q3 q4 q5 hrd h2 h3
              refine ⟨u, ?_, u2⟩
              simp [resultOf, hv, asAddr, u1]
            · exact absurd rfl hq
          · exact absurd rfl hq
      · exact absurd rfl hq
theorem resultsL_ok (hH : HRel w R H) (hE : ERel w R H env tmps) : ∀ {rs : List ResultVar} {qs : List Res}, mRess P rs qs = true → (∀ q ∈ qs, getR env H q ≠ .io []) →
    ∃ vs : List Value, (rs.mapM (resultOf tmps)).run P w = .ok vs w ∧ (qs.map (getR env H)).length = vs.length ∧ ∀ (i : Nat) p v, (qs.map (getR env H))[i]? = some p → vs[i]? = some v → Rep w (Xof H R) R p v
  | [], [], _, _ => ⟨[], by simp, rfl, fun i p v h => by simp at h⟩
  | [], _ :: _, h, _ => by simp [mRess] at h
  | _ :: _, [], h, _ => by simp [mRess] at h
  | r :: rs, q :: qs, h, hq => by
    simp only [mRess, Bool.and_eq_true] at h
    obtain ⟨v, v1, v2⟩ := resultOf_ok hH hE h.1 (hq q (.head _))
    obtain ⟨vs, u1, u2, u3⟩ := resultsL_ok hH hE h.2 fun q' hq' => hq q' (.tail _ hq')
    refine ⟨v :: vs, by simp [List.mapM_cons, v1, u1], by simpa using u2, fun i p u hp hu => ?_⟩
    cases i with
    | zero => simp at hp hu; subst hp; subst hu; exact v2
    | succ i => simp at hp hu; exact u3 i p u (by simpa using hp) hu
theorem results_run {pf : Func} {vs : List Value} (h : (pf.results.toList.mapM (resultOf tmps)).run P w = .ok vs w) :
    (results pf tmps).run P w = .ok (match vs with | [v] => v | vs => .tuple vs.toArray) w := by
  have e : results pf tmps = (do let vs ← pf.results.mapM (resultOf tmps); pure (if h : vs.size = 1 then vs[0] else .tuple vs)) := by
    have e2 : ∀ f : ResultVar → Sem Value, (∀ r, f r = resultOf tmps r) → (do let vs ← pf.results.mapM f; pure (if h : vs.size = 1 then vs[0] else .tuple vs)) = (do let vs ← pf.results.mapM (resultOf tmps); pure (if h : vs.size = 1 then vs[0] else .tuple vs) : Sem Value) := by
      intro f hf
      have : f = resultOf tmps := funext hf
      rw [this]
    unfold results
    exact e2 _ fun r => by cases r <;> rfl
  rw [e, Array.mapM_eq_mapM_toList]
  simp only [Sem.run_bind]
  have h2 : (List.toArray <$> pf.results.toList.mapM (resultOf tmps)).run P w = .ok vs.toArray w := by
    simp [h]
  rw [h2]
  simp only [Result.andThen_ok]
  match vs with
  | [] => simp
  | [v] => simp
  | v :: u :: vs => simp
theorem gives1_noio {ps : List PV} : ∀ {gs : List Nat} {x : List PV × List Nat × List Nat}, gives1 H gs ps = some x → ∀ p ∈ ps, p ≠ .io [] := by
  have one : ∀ g, give1 g H (.io []) = none := by
    intro g
    cases g <;> rfl
  induction ps with
  | nil => intro gs x _ p hp; cases hp
  | cons q ps ih =>
    intro gs x h p hp
    have : ∃ g gs' y, give1 g H q ≠ none ∧ gives1 H gs' ps = some y := by
      cases gs with
      | nil =>
        simp only [gives1] at h
        split at h <;> first | (cases h; done) | skip
        rename_i h1
        split at h <;> first | (cases h; done) | skip
        rename_i h2
        exact ⟨none, [], _, by rw [h1]; simp, h2⟩
      | cons z zs =>
        simp only [gives1] at h
        split at h <;> first | (cases h; done) | skip
        rename_i h1
        split at h <;> first | (cases h; done) | skip
        rename_i h2
        exact ⟨some z, zs, _, by rw [h1]; simp, h2⟩
    obtain ⟨g, gs', y, h1, h2⟩ := this
    cases hp with
    | head => intro e; subst e; exact h1 (one g)
    | tail _ hp => exact ih h2 p hp
end
end Go.Ev
namespace Go.Ev
open Go
set_option linter.unusedSectionVars false
set_option linter.unusedSimpArgs false
set_option linter.unusedVariables false
section
variable [Frame]
theorem hget_mem : ∀ {l : Heap} {j : Nat} {b : Blk}, hget l j = some b → (j, b) ∈ l
  | [], _, _, h => by cases h
  | (i, c) :: r, j, b, h => by
    simp only [hget] at h
    cases hb : Nat.beq i j with
    | true => rw [hb] at h; cases h; have := nbeq_iff.1 hb; subst this; exact .head _
    | false => rw [hb] at h; exact .tail _ (hget_mem h)
theorem hget_none {l : Heap} {j : Nat} (h : hget l j = none) : j ∉ keys l := by
  induction l with
  | nil => intro hj; cases hj
  | cons p r ih =>
    obtain ⟨i, c⟩ := p
    simp only [hget] at h
    cases hb : Nat.beq i j with
    | true => rw [hb] at h; cases h
    | false =>
      rw [hb] at h
      have := nbeq_false hb
      simp only [keys, List.mem_cons]
      rintro (e | e)
      · exact this e.symm
      · exact ih h e
end
theorem fn_ok {P : Program} {glob : Nat → List PV} {gs : List Nat} (hP : P.follows .mixedOrders = true) {call : FuncId → List PV → Option (PV × List (List PV))} (hcall : ∀ f, FnOK P glob gs call f) (n : Nat)
    {f : FuncId} {fn : IFn} (hm : mFn P gs f fn = true) {args : List PV} {r : PV} (he : evFn ⟨call, glob⟩ (iter n) fn args = some (r, [])) : ownFn P f = true ∧ AnsOK P glob gs f args r := by
  refine ⟨?_, ?_⟩
  · unfold mFn at hm
    split at hm <;> first | (cases hm; done) | skip
    split at hm <;> first | (cases hm; done) | skip
    simp only [Bool.and_eq_true] at hm
    exact hm.2
  intro Z w vs ks hlt hkz hkn hglob hL
  letI fr : Frame := ⟨fun k => Z k ∧ k ∉ ks⟩
  unfold mFn at hm
  split at hm <;> first | (cases hm; done) | skip
  rename_i pf hf
  split at hm <;> first | (cases hm; done) | skip
  rename_i c hb
  simp only [Bool.and_eq_true] at hm
  obtain ⟨⟨⟨hm1, hm2⟩, hm3⟩, _⟩ := hm
  unfold evFn at he
  split at he <;> first | (cases he; done) | skip
  rename_i hnp
  have hnp := nbeq_iff.1 hnp
  obtain ⟨hno, hlen⟩ := hL.noIo
  obtain ⟨e1, e2, e3, e4, e5⟩ := enter_eq (idh 0 args.length) args 0 hno (fun i h1 h2 => adopt_idh _ 0 i h1 h2)
  obtain ⟨R0, ks1, hC, hCl, hCv⟩ := adoptL_rep (idh 0 args.length) 0 noRefs hL hkn e4 (fun _ _ => rfl)
  rw [← e1] at hC
  have hown : ∀ id b r k o, hget (enter 0 args).2 id = some b → R0 id = some r → r.blk = some (k, o) → k ∈ ks1 := by
    intro id b r k o h1 h2 h3
    obtain ⟨r', q1, _, _, q4⟩ := hC.new id b (hget_mem h1)
    rw [h2] at q1; cases q1
    exact q4 k o h3
  have hXZ : ∀ k, Xof (enter 0 args).2 R0 k → Z k := by
    rintro k (hk | ⟨id, b, r, o, h1, _, h3, h4⟩)
    · exact hk.1
    · exact hkz k (hC.sub k (hown id b r k o h1 h3 h4))
  have hH : HRel w R0 (enter 0 args).2 := by
    refine ⟨fun k hk => hlt k hk.1, fun id b r k o h1 _ h3 h4 hF => hF.2 (hC.sub k (hown id b r k o h1 h3 h4)), fun id hid => ?_, fun id b hid => ?_, fun id id' b b' r r' k o o' h1 h1' _ _ h3 h3' h4 h4' => ?_⟩
    · rw [hC.old id (hget_none hid)]; rfl
    · obtain ⟨r', q1, _, q3, _⟩ := hC.new id b (hget_mem hid)
      exact ⟨r', q1, q3 _ _ fun k hk _ => hXZ k hk⟩
    · exact hC.inj id id' r r' k o o' (keys_mem.2 ⟨b, hget_mem h1⟩) (keys_mem.2 ⟨b', hget_mem h1'⟩) h3 h3' h4 h4'
  let a0 : Act := { tmps := vs ++ Array.replicate (pf.ntmps - vs.size) undef, defers := [] }
  have hE : ERel w R0 (enter 0 args).2 (enter 0 args).1 a0.tmps := by
    intro t
    by_cases ht : t < args.length
    · have hta : t < (adoptL (idh 0 args.length) 0 args).1.length := by rw [hCl, ← hlen]; exact ht
      have htv : t < vs.size := by simpa [hlen] using ht
      have h1 := e2 t _ (List.getElem?_eq_getElem hta)
      rw [Nat.zero_add] at h1
      rw [h1]
      have h2 : a0.tmps.getD t undef = vs[t] := by
        simp [a0, Array.getD_eq_getD_getElem?, Array.getElem?_append_left htv, htv]
      rw [h2]
      refine hCv _ (fun k hk _ => hXZ k hk) (fun k hk hk1 => ?_) t _ _ (List.getElem?_eq_getElem hta) (by simp [htv])
      rintro (hF | ⟨id, b, r, o, q1, _, q3, q4⟩)
      · exact hF.2 hk
      · exact hk1 (hown id b r k o q1 q3 q4)
    · rw [e3 t (by omega)]
      exact .any _ _
  have hI : Inv ⟨call, glob⟩ gs pf.ntmps w (fun k => k ∈ ks) w R0 (enter 0 args).2 (enter 0 args).1 a0 := by
    refine ⟨hH, hE, fun g hg => (hglob g hg).mono (Grow.refl w _) (fun k _ hn hx => hn (hXZ k hx)) (RExt.refl _), by simp [a0]; omega, rfl, Grow.refl w _, ?_⟩
    rintro k _ ⟨id, b, r, o, h1, _, h3, h4⟩
    exact hC.sub k (hown id b r k o h1 h3 h4)
  have fin : ∀ {env : Env} {H : Heap}, leave fn args env H = some (r, []) → ∀ a' w' R', Inv ⟨call, glob⟩ gs pf.ntmps w (fun k => k ∈ ks) w' R' H env a' →
      a'.defers = [] ∧ ∃ v, (results pf a'.tmps).run P w' = .ok v w' ∧ ∃ v', Ending.returned v = .returned v' ∧ Grow w (fun k => k ∈ ks) w' ∧
      ∃ (Z' : Nat → Prop) (ks' : List Nat), (∀ k, Z k → k ∉ ks → Z' k) ∧ (∀ k ∈ ks', Z' k ∧ (k ∈ ks ∨ w.heap.size ≤ k)) ∧ (∀ k, Z' k → k < w'.heap.size) ∧ ks'.Nodup ∧ RetR w' Z' r v' ks' := by
    intro env H hl a' w' R' hI'
    unfold leave at hl
    rw [lentOf_nil hno] at hl
    simp only [lends] at hl
    split at hl <;> first | (cases hl; done) | skip
    rename_i qs x s ios y t hg hy
    cases hy
    split at hl <;> first | (cases hl; done) | skip
    rename_i c1 c2 c3
    rw [List.append_nil] at c1
    rw [List.append_nil, List.append_nil] at c2
    rw [List.append_nil, List.append_nil] at c3
    have hH' := hI'.heap
    obtain ⟨us, u1, u2, u3⟩ := resultsL_ok (P := P) hH' hI'.env hm2 fun q hq => gives1_noio hg _ (List.mem_map_of_mem hq)
    obtain ⟨d1, ks', d2, d3, d4⟩ := gives1_rep hH' (seen := s) hg (fun _ h => h) u2 u3
    have hall := hasAll_spec c3
    have hres := results_run u1
    refine ⟨hI'.calm, _, hres, _, rfl, hI'.grow, Zof H R' s, ks', fun k hk hn => ⟨.inl ⟨hk, hn⟩, ?_⟩, fun k hk => ?_, fun k hk => hH'.X_lt hk.1, d3.nodup hH' (nodupN_spec c1) (fun i hi => hall i (List.mem_append_left _ hi)), ?_⟩
    · rintro ⟨i, hi, q, o, q1, q2⟩
      obtain ⟨b, q3, q4⟩ := hall i (List.mem_append_right _ hi)
      exact hH'.off i b q k o q3 q4 q1 q2 ⟨hk, hn⟩
    · obtain ⟨i, hi, q, o, q1, q2⟩ := d3.mem k hk
      obtain ⟨sz, rows, q3⟩ := d4 i hi
      have ho : Own H R' k := ⟨i, _, q, o, q3, rfl, q1, q2⟩
      refine ⟨⟨.inr ho, ?_⟩, ?_⟩
      · rintro ⟨j, hj, q', o', q4, q5⟩
        obtain ⟨b, q6, q7⟩ := hall j (List.mem_append_right _ hj)
        have := hH'.inj i j _ b q q' k o o' q3 q6 rfl q7 q1 q4 q2 q5
        subst this
        exact apartN_spec c2 i hi hj
      · rcases Nat.lt_or_ge k w.heap.size with h | h
        · exact .inl (hI'.own k h ho)
        · exact .inr h
    · match qs, us, hl, d1, d2 with
      | [q], [u], hl, d1, d2 =>
        cases hl
        cases d2 with
        | cons _ _ k1 _ _ k2 h hr =>
          cases hr
          rw [List.append_nil]
          exact .one _ _ _ (d1 _ (.head _)) h
      | [], [], hl, d1, d2 =>
        cases hl
        exact .tuple [] #[] _ d2
      | q1 :: q2 :: qs, v1 :: v2 :: us, hl, d1, d2 =>
        cases hl
        exact .tuple _ _ _ (by simpa using d2)
      | [], _ :: _, _, _, d2 => cases d2
      | _ :: _, [], _, _, d2 => cases d2
      | [_], _ :: _ :: _, _, _, d2 => cases d2 with | cons _ _ _ _ _ _ _ hr => cases hr
      | _ :: _ :: _, [_], _, _, d2 => cases d2 with | cons _ _ _ _ _ _ _ hr => cases hr
  refine calls_of_wp hf hb ?_
  split at he
  · rename_i env H hev
    exact (code_ok hP hcall n fn.body c hm1).use hI hev fun a' w' R' hI' => fin he a' w' R' hI'
  · rename_i env H hev
    exact (code_ok hP hcall n fn.body c hm1).use hI hev fun a' w' R' hI' => fin he a' w' R' hI'
  · cases he
end Go.Ev
namespace Go.Ev
open Go
set_option linter.unusedSectionVars false
set_option linter.unusedSimpArgs false
set_option linter.unusedVariables false
def run (tab : FuncId → Option IFn) (prim : FuncId → List PV → Option (PV × List (List PV))) (glob : Nat → List PV) : Nat → FuncId → List PV → Option (PV × List (List PV))
  | 0, _, _ => none
  | n + 1, f, args => match tab f with
    | some fn => evFn ⟨run tab prim glob n, glob⟩ (iter n) fn args
    | none => prim f args
theorem run_ok {P : Program} {glob : Nat → List PV} {gs : List Nat} {tab : FuncId → Option IFn} {prim : FuncId → List PV → Option (PV × List (List PV))} (hP : P.follows .mixedOrders = true)
    (htab : ∀ f fn, tab f = some fn → mFn P gs f fn = true) (hprim : ∀ f args r, tab f = none → prim f args = some (r, []) → ownFn P f = true ∧ AnsOK P glob gs f args r) :
    ∀ n f args r, run tab prim glob n f args = some (r, []) → ownFn P f = true ∧ AnsOK P glob gs f args r
  | 0, f, args, r, h => by cases h
  | n + 1, f, args, r, h => by
    simp only [run] at h
    split at h
    · rename_i fn hf
      exact fn_ok hP (fun g args' r' h' => run_ok hP htab hprim n g args' r' h') n (htab f fn hf) h
    · rename_i hf
      exact hprim f args r hf h
def lookT : List (Nat × IFn) → Nat → Option IFn
  | [], _ => none
  | (k, c) :: r, f => match Nat.beq k f with | true => some c | false => lookT r f
theorem lookT_mem : ∀ {l : List (Nat × IFn)} {f : Nat} {c : IFn}, lookT l f = some c → (f, c) ∈ l
  | [], _, _, h => by cases h
  | (k, d) :: r, f, c, h => by
    simp only [lookT] at h
    cases hb : Nat.beq k f with
    | true => rw [hb] at h; cases h; have := Nat.eq_of_beq_eq_true hb; subst this; exact .head _
    | false => rw [hb] at h; exact .tail _ (lookT_mem h)
theorem frz_nil (H : Heap) (r : PV) (ios : List (List PV)) : frz H [] r ios = some [] := by
  unfold frz; split <;> rfl
theorem frz_cons (H : Heap) (i : Nat) (s : List Nat) (r : PV) (ios : List (List PV)) : frz H (i :: s) r ios = (match flatv r, ios with | true, [] => some [] | _, _ => frees H (i :: s)) := rfl
end Go.Ev

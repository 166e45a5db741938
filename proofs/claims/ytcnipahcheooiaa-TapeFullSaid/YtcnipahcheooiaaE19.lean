/-
  Behind a call: the blocks that went, those that came, and everything else as it was.
-/
import Derived.Test.YtcnipahcheooiaaE18
namespace Go.Ev
open Go
set_option linter.unusedSectionVars false
set_option linter.unusedSimpArgs false
set_option linter.unusedVariables false
variable [Frame]

def lastOf : List (Nat × Blk) → Nat → Option Blk
  | [], _ => none
  | (i, b) :: r, j => match lastOf r j with
    | some c => some c
    | none => if j = i then some b else none

theorem hget_last : ∀ (l : List (Nat × Blk)) (H : Heap) (j : Nat), hget (hsets l H) j = match lastOf l j with | some c => some c | none => hget H j
  | [], _, _ => rfl
  | (i, b) :: r, H, j => by
    simp only [hsets, lastOf]
    rw [hget_last r, hget_hset]
    cases lastOf r j with
    | some c => rfl
    | none => by_cases e : j = i <;> simp [e]

theorem lastOf_append : ∀ (a b : List (Nat × Blk)) (j : Nat), lastOf (a ++ b) j = match lastOf b j with | some c => some c | none => lastOf a j
  | [], b, j => by simp only [List.nil_append, lastOf]; cases lastOf b j <;> rfl
  | (i, c) :: a, b, j => by
    simp only [List.cons_append, lastOf]
    rw [lastOf_append a b j]
    cases lastOf b j <;> rfl

theorem lastOf_mem : ∀ {l : List (Nat × Blk)} {j : Nat} {c : Blk}, lastOf l j = some c → (j, c) ∈ l
  | [], _, _, h => by cases h
  | (i, b) :: r, j, c, h => by
    simp only [lastOf] at h
    split at h
    · rename_i c' hc
      cases h
      exact .tail _ (lastOf_mem hc)
    · split at h <;> cases h
      subst_vars
      exact .head _
theorem lastOf_none : ∀ {l : List (Nat × Blk)} {j : Nat}, lastOf l j = none → ∀ p ∈ l, p.1 ≠ j
  | [], _, _, p, hp => by cases hp
  | (i, b) :: r, j, h, p, hp => by
    simp only [lastOf] at h
    split at h <;> first | (cases h; done) | skip
    rename_i hr
    split at h <;> first | (cases h; done) | skip
    rename_i hne
    cases hp with
    | head => exact fun e => hne e.symm
    | tail _ hp => exact lastOf_none hr p hp

theorem deads_mem : ∀ {l : List Nat} {p : Nat × Blk}, p ∈ deads l → p.1 ∈ l ∧ p.2 = .dead
  | [], p, h => by cases h
  | i :: r, p, h => by
    simp only [deads] at h
    cases h with
    | head => exact ⟨.head _, rfl⟩
    | tail _ h => exact ⟨.tail _ (deads_mem h).1, (deads_mem h).2⟩
theorem deads_none {l : List Nat} {j : Nat} (h : lastOf (deads l) j = none) : j ∉ l := by
  induction l with
  | nil => intro hj; cases hj
  | cons i r ih =>
    intro hj
    simp only [deads, lastOf] at h
    split at h <;> first | (cases h; done) | skip
    rename_i hr
    split at h <;> first | (cases h; done) | skip
    rename_i hne
    cases hj with
    | head => exact hne rfl
    | tail _ hj => exact ih hr hj

theorem keys_mem {l : List (Nat × Blk)} {j : Nat} : j ∈ keys l ↔ ∃ c, (j, c) ∈ l := by
  induction l with
  | nil => simp [keys]
  | cons p r ih =>
    obtain ⟨i, b⟩ := p
    simp only [keys, List.mem_cons, ih]
    constructor
    · rintro (rfl | ⟨c, hc⟩)
      · exact ⟨b, .inl rfl⟩
      · exact ⟨c, .inr hc⟩
    · rintro ⟨c, h | h⟩
      · cases h; exact .inl rfl
      · exact .inr ⟨c, h⟩
theorem keys_append : ∀ (a b : List (Nat × Blk)), keys (a ++ b) = keys a ++ keys b
  | [], _ => rfl
  | (i, c) :: a, b => by simp [keys, keys_append a b]

theorem newIds_spec {H : Heap} : ∀ {l : List (Nat × Blk)} {seen : List Nat}, newIds H l seen = true → (∀ j ∈ keys l, hget H j = none ∧ j ∉ seen) ∧ (keys l).Nodup
  | [], _, _ => ⟨fun j hj => (by cases hj), List.nodup_nil⟩
  | (i, b) :: r, seen, h => by
    simp only [newIds] at h
    split at h <;> first | (cases h; done) | skip
    rename_i hi
    split at h <;> first | (cases h; done) | skip
    rename_i hm
    obtain ⟨h1, h2⟩ := newIds_spec h
    refine ⟨fun j hj => ?_, List.nodup_cons.2 ⟨fun hj => (h1 i hj).2 (.head _), h2⟩⟩
    cases hj with
    | head => exact ⟨hi, memN_false hm⟩
    | tail _ hj => exact ⟨(h1 j hj).1, fun hs => (h1 j hj).2 (.tail _ hs)⟩

section
variable {w : World} {R : Refs} {H : Heap}

theorem adopt_fresh (hints : List (Nat × Nat)) (i sz : Nat) (rows : List (List PV)) :
    adopt hints i (.fresh sz rows) = (.ro rows, []) ∨ ∃ id, adopt hints i (.fresh sz rows) = (.own id 0 rows.length rows.length, [(id, .arr sz rows)]) := by
  induction hints with
  | nil => exact .inl rfl
  | cons p r ih =>
    obtain ⟨j, id⟩ := p
    simp only [adopt]
    cases hb : Nat.beq j i with
    | true => exact .inr ⟨id, rfl⟩
    | false => exact ih

theorem adopt_plain (hints : List (Nat × Nat)) (i : Nat) {p : PV} (h : isBorder p = false) : adopt hints i p = (p, []) := by
  cases p <;> first | (cases h; done) | (cases hints <;> rfl)

/-- What the blocks are that came back. -/
structure Came (w : World) (Z : Nat → Prop) (u : List (Nat × Blk)) (R R' : Refs) (ks ks1 : List Nat) : Prop where
  old : ∀ id, id ∉ keys u → R' id = R id
  sub : ∀ k ∈ ks1, k ∈ ks
  new : ∀ id c, (id, c) ∈ u → ∃ r, R' id = some r ∧ (∃ sz rows, c = .arr sz rows) ∧ (∀ (X : Nat → Prop) (R0 : Refs), (∀ k, X k → k < w.heap.size → Z k) → BRel w X R0 r c) ∧ ∀ k o, r.blk = some (k, o) → k ∈ ks1
  inj : ∀ id id' r r' k o o', id ∈ keys u → id' ∈ keys u → R' id = some r → R' id' = some r' → r.blk = some (k, o) → r'.blk = some (k, o') → id = id'

theorem adoptL_rep (hints : List (Nat × Nat)) {Z : Nat → Prop} : ∀ {ps : List PV} {vs : List Value} {ks : List Nat} (i : Nat) (R : Refs), ListR w Z ps vs ks → ks.Nodup → (keys (adoptL hints i ps).2).Nodup →
    (∀ id ∈ keys (adoptL hints i ps).2, R id = none) → ∃ R' ks1, Came w Z (adoptL hints i ps).2 R R' ks ks1 ∧ (adoptL hints i ps).1.length = vs.length ∧
      ∀ X : Nat → Prop, (∀ k, X k → k < w.heap.size → Z k) → (∀ k ∈ ks, k ∉ ks1 → ¬ X k) → ∀ (j : Nat) q v, (adoptL hints i ps).1[j]? = some q → vs[j]? = some v → Rep w X R' q v
  | [], _, _, i, R, h, _, _, _ => by
    cases h
    exact ⟨R, [], ⟨fun _ _ => rfl, fun _ h => h, fun id c h => (by cases h), fun id id' r r' k o o' h => (by cases h)⟩, rfl, fun X _ _ j q v hq => by simp [adoptL] at hq⟩
  | p :: ps, _, _, i, R, h, hks, hn, hR => by
    cases h with
    | cons _ v k1 _ vs k2 hc hr =>
      simp only [adoptL] at hn hR ⊢
      rw [keys_append] at hn hR
      obtain ⟨n1, n2, n3⟩ := List.nodup_append.1 hn
      obtain ⟨m1, m2, m3⟩ := List.nodup_append.1 hks
      -- the head
      have head : ∃ R1 kx, Came w Z (adopt hints i p).2 R R1 k1 kx ∧ ∀ X : Nat → Prop, (∀ k, X k → k < w.heap.size → Z k) → (∀ k ∈ k1, k ∉ kx → ¬ X k) → Rep w X R1 (adopt hints i p).1 v := by
        cases hc with
        | plain _ _ hb hrep =>
          rw [adopt_plain hints i hb]
          exact ⟨R, [], ⟨fun _ _ => rfl, fun _ h => h, fun id c h => (by cases h), fun id id' r r' k o o' h => (by cases h)⟩,
            fun X hX _ => hrep.mono (Grow.refl w _) (fun k hk hn hx => hn (hX k hx hk)) (RExt.no _)⟩
        | fresh sz rows _ _ hf =>
          rcases adopt_fresh hints i sz rows with e | ⟨id, e⟩
          · rw [e]
            refine ⟨R, [], ⟨fun _ _ => rfl, fun k h => (by cases h), fun id c h => (by cases h), fun id id' r r' k o o' h => (by cases h)⟩, fun X hX hk => ?_⟩
            cases hf with
            | none ad hr0 => subst hr0; exact .ro0 _ _ _
            | some k base c cs et hw hc' hs hrr =>
              have hnx : ¬ X k := hk k (.head _) (by simp)
              have := ro_view (w := w) (X := X) (off := 0) (len := rows.length) (c := c) hnx hw (hrr.mono (Grow.refl w _) (fun k hk hn hx => hn (hX k hx hk))) (by omega) hc'
              rw [List.drop_zero, List.take_length, Nat.zero_mul, Nat.add_zero] at this
              exact this.mono (Grow.refl w _) (fun _ _ h => h) (RExt.no _)
          · rw [e] at hn hR ⊢
            have hid : R id = none := hR id (by simp [keys])
            cases hf with
            | none ad hr0 =>
              subst hr0
              let r : RB := ⟨false, none, sz, 0⟩
              refine ⟨upR R id r, [], ⟨fun j hj => upR_ne R r (fun e => hj (by rw [e]; exact .head _)), fun k h => h, fun j c hj => ?_, fun j j' r1 r2 k o o' hj hj' => ?_⟩, fun X hX hk => .ownZ _ id r ad 0 (upR_same R id r) rfl rfl⟩
              · have : j = id ∧ c = .arr sz [] := by simpa using hj
                obtain ⟨rfl, rfl⟩ := this
                exact ⟨r, upR_same R _ r, ⟨_, _, rfl⟩, fun X R0 hX => ⟨rfl, rfl, rfl, .inl ⟨rfl, rfl⟩⟩, fun k o h => (by cases h)⟩
              · have h1 : j = id := by simpa [keys] using hj
                have h2 : j' = id := by simpa [keys] using hj'
                intros; rw [h1, h2]
            | some k base c cs et hw hc' hs hrr =>
              let r : RB := ⟨false, some (k, base), sz, rows.length⟩
              refine ⟨upR R id r, [k], ⟨fun j hj => upR_ne R r (fun e => hj (by rw [e]; exact .head _)), fun k h => h, fun j cc hj => ?_, fun j j' r1 r2 k o o' hj hj' => ?_⟩, fun X hX hk => ?_⟩
              · have : j = id ∧ cc = .arr sz rows := by simpa using hj
                obtain ⟨rfl, rfl⟩ := this
                refine ⟨r, upR_same R _ r, ⟨_, _, rfl⟩, fun X R0 hX => ⟨rfl, rfl, rfl, .inr ⟨k, base, cs, et, rfl, hw, ?_, hrr.mono (Grow.refl w _) (fun k hk hn hx => hn (hX k hx hk))⟩⟩, fun k' o h => ?_⟩
                · have := Nat.mul_le_mul_right sz hc'
                  show base + rows.length * sz ≤ _
                  omega
                · cases h; exact .head _
              · have h1 : j = id := by simpa [keys] using hj
                have h2 : j' = id := by simpa [keys] using hj'
                intros; rw [h1, h2]
              · have := Rep.own (w := w) (X := X) (upR R id r) id r k base 0 rows.length rows.length c cs et (0, 0) (upR_same R id r) rfl rfl rfl (by omega) hc' (by omega) hw (by show base + (0 + c) * sz ≤ _; rw [Nat.zero_add]; exact hs)
                rwa [Nat.zero_mul, Nat.add_zero] at this
      obtain ⟨R1, kx, c1, v1⟩ := head
      obtain ⟨R', ks1, c2, hlen, v2⟩ := adoptL_rep hints (i + 1) R1 hr m2 n2 (fun id hid => by
        rw [c1.old id (fun h => n3 id h id hid rfl)]
        exact hR id (List.mem_append_right _ hid))
      have hstay : ∀ id, id ∉ keys (adoptL hints (i + 1) ps).2 → R' id = R1 id := c2.old
      refine ⟨R', kx ++ ks1, ⟨fun id hid => ?_, fun k hk => ?_, fun id c hid => ?_, fun id id' r r' k o o' hid hid' hr1 hr2 hk1 hk2 => ?_⟩, by simp [hlen], fun X hX hk j q u hq hu => ?_⟩
      · rw [keys_append] at hid
        rw [c2.old id (fun h => hid (List.mem_append_right _ h)), c1.old id (fun h => hid (List.mem_append_left _ h))]
      · rcases List.mem_append.1 hk with h | h
        · exact List.mem_append_left _ (c1.sub k h)
        · exact List.mem_append_right _ (c2.sub k h)
      · rcases List.mem_append.1 hid with h | h
        · obtain ⟨r, r1, r2, r3, r4⟩ := c1.new id c h
          refine ⟨r, ?_, r2, r3, fun k o hk => List.mem_append_left _ (r4 k o hk)⟩
          rw [hstay id (fun h' => n3 id (keys_mem.2 ⟨c, h⟩) id h' rfl)]; exact r1
        · obtain ⟨r, r1, r2, r3, r4⟩ := c2.new id c h
          exact ⟨r, r1, r2, r3, fun k o hk => List.mem_append_right _ (r4 k o hk)⟩
      · rw [keys_append] at hid hid'
        have blkOf : ∀ {id r k o}, id ∈ keys (adopt hints i p).2 → R' id = some r → r.blk = some (k, o) → R1 id = some r ∧ k ∈ kx := by
          intro id r k o h1 h2 h3
          have e := hstay id (fun h' => n3 id h1 id h' rfl)
          rw [e] at h2
          obtain ⟨c, hc⟩ := keys_mem.1 h1
          obtain ⟨r0, q1, _, _, q4⟩ := c1.new id c hc
          rw [h2] at q1; cases q1
          exact ⟨h2, q4 k o h3⟩
        have blkOf2 : ∀ {id r k o}, id ∈ keys (adoptL hints (i + 1) ps).2 → R' id = some r → r.blk = some (k, o) → k ∈ ks1 := by
          intro id r k o h1 h2 h3
          obtain ⟨c, hc⟩ := keys_mem.1 h1
          obtain ⟨r0, q1, _, _, q4⟩ := c2.new id c hc
          rw [h2] at q1; cases q1
          exact q4 k o h3
        rcases List.mem_append.1 hid with h | h <;> rcases List.mem_append.1 hid' with h' | h'
        · exact c1.inj id id' r r' k o o' h h' (blkOf h hr1 hk1).1 (blkOf h' hr2 hk2).1 hk1 hk2
        · exact (m3 k (c1.sub k (blkOf h hr1 hk1).2) k (c2.sub k (blkOf2 h' hr2 hk2)) rfl).elim
        · exact (m3 k (c1.sub k (blkOf h' hr2 hk2).2) k (c2.sub k (blkOf2 h hr1 hk1)) rfl).elim
        · exact c2.inj id id' r r' k o o' h h' hr1 hr2 hk1 hk2
      · cases j with
        | zero =>
          simp at hq hu
          subst hq; subst hu
          have hv := v1 X hX (fun k hk1 hk2 => hk k (List.mem_append_left _ hk1) (fun h => by
            rcases List.mem_append.1 h with h | h
            · exact hk2 h
            · exact m3 k hk1 k (c2.sub k h) rfl))
          refine hv.mono (Grow.refl w _) (fun _ _ h => h) (fun id r hr => ⟨r, ?_, .inl rfl⟩)
          by_cases hid : id ∈ keys (adoptL hints (i + 1) ps).2
          · have : R1 id = none := by
              rw [c1.old id (fun h => n3 id h id hid rfl)]
              exact hR id (List.mem_append_right _ hid)
            rw [this] at hr; cases hr
          · rw [hstay id hid]; exact hr
        | succ j =>
          simp at hq hu
          exact v2 X hX (fun k hk1 hk2 => hk k (List.mem_append_right _ hk1) (fun h => by
            rcases List.mem_append.1 h with h | h
            · exact m3 k (c1.sub k h) k hk1 rfl
            · exact hk2 h)) j q u hq hu

end

end Go.Ev

/-
  Regions whose order is drawn: each order comes to the same.
-/
import Derived.Test.YtcnipahcheooiaaE24
import Derived.Test.YtcnipahcheooiaaE37
namespace Go.Ev
open Go
set_option linter.unusedSectionVars false
set_option linter.unusedSimpArgs false
set_option linter.unusedVariables false
variable [Frame]

section
variable {cx : Cx} {full : List Opn} {L : Nat → Eff}

theorem Runs.ext {L' : Nat → Eff} : ∀ {ts : List Nat} {env H env' H'}, Runs cx full L ts env H env' H' → (∀ i ∈ ts, L' i = L i) → Runs cx full L' ts env H env' H'
  | [], _, _, _, _, h, _ => by cases h; exact .nil _ _
  | i :: ts, _, _, _, _, h, he => by
    cases h with
    | cons _ _ o _ _ _ _ ho hev hr =>
      have e := he i (.head _)
      exact .cons i ts o _ _ _ _ ho (by rw [e]; exact hev) (by rw [e]; exact hr.ext fun k hk => he k (.tail _ hk))

theorem Runs.each : ∀ {ts : List Nat} {env H env' H'}, Runs cx full L ts env H env' H' → ∀ i ∈ ts, ∃ o env1 H1, full[i]? = some o ∧ evE cx o env1 H1 = some (L i)
  | [], _, _, _, _, _, i, hi => by cases hi
  | j :: ts, _, _, _, _, h, i, hi => by
    cases h with
    | cons _ _ o _ _ _ _ ho hev hr =>
      cases hi with
      | head => exact ⟨o, _, _, ho, hev⟩
      | tail _ hi => exact hr.each i hi

theorem evOpsD_runs : ∀ {os : List Opn} (n : Nat) {env : Env} {H : Heap} {env' : Env} {H' : Heap} {l : List (List Nat × List Nat)}, (∀ (j : Nat) o, os[j]? = some o → full[n + j]? = some o) → evOpsD cx os env H = some ((env', H'), l) →
    ∃ L : Nat → Eff, Runs cx full L (List.range' n os.length) env H env' H' ∧ ∀ (j : Nat) e, l[j]? = some e → e = ((L (n + j)).rd, keys (L (n + j)).upd)
  | [], n, env, H, env', H', l, _, he => by
    simp only [evOpsD] at he
    cases he
    exact ⟨fun _ => ⟨.undef, [], []⟩, .nil _ _, fun j e h => by simp at h⟩
  | o :: os, n, env, H, env', H', l, hf, he => by
    have hone : ∃ e0 l', evE cx o env H = some e0 ∧ evOpsD cx os (put env o.dst e0.v) (hsets e0.upd H) = some ((env', H'), l') ∧ l = (e0.rd, keys e0.upd) :: l' := by
      simp only [evOpsD] at he
      unfold evE
      split at he <;> first | (cases he; done) | skip
      rename_i b hb
      rw [hb]
      split at he
      · split at he <;> first | (cases he; done) | skip
        rename_i e hev
        split at he <;> cases he
        rename_i hrest
        exact ⟨e, _, hev, hrest, rfl⟩
      · split at he <;> cases he
        rename_i hrest
        exact ⟨_, _, rfl, hrest, rfl⟩
    obtain ⟨e0, l', h1, h2, rfl⟩ := hone
    obtain ⟨L, h3, h4⟩ := evOpsD_runs (n + 1) (fun j o' hj => by
      have := hf (j + 1) o' (by simpa using hj)
      rwa [show n + 1 + j = n + (j + 1) by omega]) h2
    refine ⟨fun i => if i = n then e0 else L i, ?_, fun j e hj => ?_⟩
    · rw [List.length_cons, List.range'_succ]
      refine .cons n _ o _ _ _ _ (hf 0 o rfl) (by simpa using h1) ?_
      simp only [if_true]
      refine h3.ext fun i hi => ?_
      have := (List.mem_range'_1.1 hi).1
      simp only [if_neg (show i ≠ n by omega)]
    · cases j with
      | zero => simp at hj; subst hj; simp
      | succ j =>
        simp at hj
        have := h4 j e hj
        have hne : n + (j + 1) ≠ n := by omega
        simp only [if_neg hne]
        rw [this, show n + 1 + j = n + (j + 1) by omega]

theorem offT_spec {d : Option Nat} {ts : List Nat} (h : offT d ts = true) : ∀ t, d = some t → t ∉ ts := by
  intro t ht hm
  subst ht
  simp [offT, memN_iff.2 hm] at h
theorem offD_spec {d d' : Option Nat} (h : offD d d' = true) : ∀ t, d = some t → d' ≠ some t := by
  intro t ht ht'
  subst ht; subst ht'
  simp [offD] at h
theorem inChk_spec {j i : Nat} : ∀ {chk : List (Nat × Nat)}, inChk j i chk = true → (j, i) ∈ chk
  | [], h => by cases h
  | (a, b) :: r, h => by
    simp only [inChk] at h
    split at h
    · rename_i hb
      simp only [Bool.and_eq_true] at hb
      have h1 := nbeq_iff.1 hb.1
      have h2 := nbeq_iff.1 hb.2
      subst h1; subst h2; exact .head _
    · exact .tail _ (inChk_spec h)
theorem apartAll_spec {l : List (List Nat × List Nat)} : ∀ {chk : List (Nat × Nat)}, apartAll l chk = true → ∀ j i, (j, i) ∈ chk → ∃ a b, l[j]? = some a ∧ l[i]? = some b ∧ apartFP a b = true
  | [], _, j, i, hm => by cases hm
  | (x, y) :: r, h, j, i, hm => by
    simp only [apartAll] at h
    split at h <;> first | (cases h; done) | skip
    rename_i a b ha hb
    split at h <;> first | (cases h; done) | skip
    rename_i hab
    cases hm with
    | head => exact ⟨a, b, ha, hb, hab⟩
    | tail _ hm => exact apartAll_spec h j i hm

theorem pair_apart {chk : List (Nat × Nat)} {l : List (List Nat × List Nat)} (hap : apartAll l chk = true) (hl : ∀ (j : Nat) e, l[j]? = some e → e = ((L j).rd, keys (L j).upd))
    (hev : ∀ (i : Nat) o, full[i]? = some o → ∃ env1 H1, evE cx o env1 H1 = some (L i)) {j i : Nat} {oj oi : Opn} (hj : full[j]? = some oj) (hi : full[i]? = some oi) (h : pairOK chk j oj i oi = true) : Apart full L j i := by
  intro o1 o2 h1 h2
  rw [hj] at h1; cases h1
  rw [hi] at h2; cases h2
  simp only [pairOK, Bool.and_eq_true, Bool.or_eq_true] at h
  obtain ⟨⟨⟨p1, p2⟩, p3⟩, p4⟩ := h
  have mem : (∀ k ∈ keys (L j).upd, k ∉ (L i).rd ∧ k ∉ keys (L i).upd) ∧ (∀ k ∈ keys (L i).upd, k ∉ (L j).rd) := by
    rcases p4 with ((p | p) | ⟨p, q⟩) | p
    · obtain ⟨_, _, he⟩ := hev j oj hj
      obtain ⟨q1, q2⟩ := pureE p he
      rw [q1, q2]
      exact ⟨fun k hk => (by simp [keys] at hk), fun k _ hk => (by cases hk)⟩
    · obtain ⟨_, _, he⟩ := hev i oi hi
      obtain ⟨q1, q2⟩ := pureE p he
      rw [q1, q2]
      exact ⟨fun k _ => ⟨fun hk => (by cases hk), fun hk => (by simp [keys] at hk)⟩, fun k hk => by simp [keys] at hk⟩
    · obtain ⟨_, _, he⟩ := hev j oj hj
      obtain ⟨_, _, hf⟩ := hev i oi hi
      rw [readE p he, readE q hf]
      exact ⟨fun k hk => (by simp [keys] at hk), fun k hk => (by simp [keys] at hk)⟩
    · obtain ⟨a, b, ha, hb, hab⟩ := apartAll_spec hap j i (inChk_spec p)
      have ea := hl j a ha
      have eb := hl i b hb
      subst ea; subst eb
      unfold apartFP at hab
      split at hab <;> first | (cases hab; done) | skip
      rename_i x1 x2 x3
      exact ⟨fun k hk => ⟨apartN_spec x1 k hk, apartN_spec x2 k hk⟩, fun k hk => apartN_spec x3 k hk⟩
  exact ⟨offT_spec p1, offT_spec p2, offD_spec p3, mem.1, mem.2⟩

end

section
variable {P : Program} {cx : Cx} {gs : List Nat} {N : Nat} {w0 w : World} {K : Nat → Prop} {R : Refs} {H : Heap} {env : Env} {a : Act}

theorem Inv.drawn (hI : Inv cx gs N w0 K w R H env a) : Inv cx gs N w0 K { w with drawn := w.drawn + 1 } R H env a := by
  have hG : ∀ X, Grow w X { w with drawn := w.drawn + 1 } := fun X => ⟨Nat.le_refl _, fun _ _ _ => rfl, fun _ cs _ _ h => ⟨cs, h, rfl⟩, rfl, rfl, rfl, fun _ => rfl⟩
  have hX : ∀ k, k < w.heap.size → ¬ Xof H R k → ¬ Xof H R k := fun k _ h => h
  exact ⟨hI.heap.change (hG _) (RExt.refl R) hX hI.heap.dom (fun i b hb => .inl ⟨hb, rfl, .inr fun _ _ _ _ _ => rfl⟩) hI.heap.inj hI.heap.off,
    fun t => (hI.env t).mono (hG _) hX (RExt.refl R), fun g hg => (hI.glob g hg).mono (hG _) hX (RExt.refl _), hI.size, hI.calm,
    hI.grow.trans (hG _) (fun k _ h => h), hI.own⟩

theorem evOne_of {o : Opn} {e : Eff} {env : Env} {H : Heap} (h : evE cx o env H = some e) : evOne cx o env H = some (put env o.dst e.v, hsets e.upd H) := by
  unfold evE at h
  unfold evOne
  split at h <;> first | (cases h; done) | skip
  · rename_i hw
    rw [hw, h]
  · rename_i hw
    rw [hw]
    cases h
    rfl

theorem any_ok (hcall : ∀ f, FnOK P cx.glob gs cx.call f) {ops : Array Oper} {os : List Opn} {B : List (List Nat)} {L : Nat → Eff} (hm : mAll P gs N ops ops.toList os = true)
    (hback : ∀ (i : Nat) o, ops[i]? = some o → ∀ x ∈ preds o, x < i) (hbef : ∀ (i : Nat) o, ops[i]? = some o → ∀ x ∈ B.getD i [], ∃ d ∈ preds o, d = x ∨ x ∈ B.getD d [])
    (hpair : ∀ j i, j < i → i < ops.size → j ∈ B.getD i [] ∨ Apart os L j i) {Q : Exit → Act → World → Prop} :
    ∀ (fuel : Nat) (ts : List Nat) (listed : Array Bool) (w : World) (R : Refs) (H : Heap) (env : Env) (a : Act) (env' : Env) (H' : Heap), fuel = ts.length → ts.Pairwise (· < ·) → listed.size = ops.size →
      (∀ j, j < ops.size → (listed.getD j true = false ↔ j ∈ ts)) → (∀ j ∈ ts, j < ops.size) → (∀ i, listed.getD i false = true → ∀ x ∈ B.getD i [], listed.getD x false = true) →
      Runs cx os L ts env H env' H' → Inv cx gs N w0 K w R H env a → (∀ a' w' R', Inv cx gs N w0 K w' R' H' env' a' → Q .normal a' w') → wpAny P .any ops Q fuel listed a w := by
  intro fuel
  have tf : ∀ (listed : Array Bool) (j : Nat), listed.size = ops.size → j < ops.size → (listed.getD j false = true ↔ listed.getD j true ≠ false) := by
    intro listed j hs hj
    have : j < listed.size := by omega
    simp [Array.getD, this]
  induction fuel with
  | zero =>
    intro ts listed w R H env a env' H' hf hp hs hlt hts hcl hr hI hQ
    have : ts = [] := List.length_eq_zero_iff.1 hf.symm
    subst this
    cases hr
    refine ⟨?_, hQ a w R hI⟩
    refine List.eq_nil_iff_forall_not_mem.2 fun i hi => ?_
    obtain ⟨h1, o, ho, _⟩ := mem_ready.1 hi
    have := (hlt i (Array.getElem?_eq_some_iff.1 ho).1).1 h1
    cases this
  | succ fuel ih =>
    intro ts listed w R H env a env' H' hf hp hs hlt hts hcl hr hI hQ
    have preds_listed : ∀ {i : Nat} {o : Oper}, ops[i]? = some o → (∀ e ∈ o.after, Region.binds .any e = true → listed.getD e.on false = true) → ∀ d ∈ preds o, listed.getD d false = true := by
      intro i o ho h d hd
      unfold preds at hd
      obtain ⟨e, he, rfl⟩ := List.mem_map.1 hd
      obtain ⟨he1, he2⟩ := List.mem_filter.1 he
      exact h e (by simpa using he1) he2
    refine ⟨fun hnil => ?_, fun i hi => ?_⟩
    · exfalso
      cases ts with
      | nil => simp at hf
      | cons i ts =>
        have hi : i < ops.size := hts i (.head _)
        have : i ∈ Region.ready .any ops listed := by
          refine mem_ready.2 ⟨(hlt i hi).2 (.head _), ops[i], by simp [hi], fun e he hb => ?_⟩
          have hd : e.on ∈ preds ops[i] := List.mem_map.2 ⟨e, List.mem_filter.2 ⟨by simpa using he, hb⟩, rfl⟩
          have hon := hback i ops[i] (by simp [hi]) e.on hd
          refine (tf listed e.on hs (by omega)).2 fun hfalse => ?_
          have := (hlt e.on (by omega)).1 hfalse
          cases this with
          | head => omega
          | tail _ hmem =>
            have := (List.pairwise_cons.1 hp).1 _ hmem
            omega
        rw [hnil] at this
        cases this
    · obtain ⟨h1, o, ho, h2⟩ := mem_ready.1 hi
      have hisz : i < ops.size := (Array.getElem?_eq_some_iff.1 ho).1
      have hit : i ∈ ts := (hlt i hisz).1 h1
      obtain ⟨p, q, rfl⟩ := List.append_of_mem hit
      obtain ⟨pp, pq, ppq⟩ := List.pairwise_append.1 hp
      have hBi : ∀ x ∈ B.getD i [], listed.getD x false = true := by
        intro x hx
        obtain ⟨d, hd, hdx⟩ := hbef i o ho x hx
        have hdl := preds_listed ho h2 d hd
        rcases hdx with rfl | hdx
        · exact hdl
        · exact hcl d hdl x hdx
      have hap : ∀ j ∈ p, Apart os L j i := by
        intro j hj
        have hji : j < i := ppq j hj i (.head _)
        rcases hpair j i hji hisz with h | h
        · exfalso
          have h3 := hBi j h
          have hjsz : j < ops.size := by omega
          exact (tf listed j hs hjsz).1 h3 ((hlt j hjsz).2 (List.mem_append_left _ hj))
        · exact h
      obtain ⟨oi, env2, H2, hoi, hei, hr2, e1, e2⟩ := Runs.front hr hap
      have hmi := (mAll_get hm).2 i o oi (by simpa using ho) hoi
      refine one_ok hcall ho hmi hI (evOne_of hei) fun a1 w1 R1 hI1 => ?_
      have hnp : i ∉ p := fun h => Nat.lt_irrefl i (ppq i h i (.head _))
      have hnq : i ∉ q := fun h => Nat.lt_irrefl i ((List.pairwise_cons.1 pq).1 i h)
      refine ih (p ++ q) _ w1 R1 _ _ a1 env2 H2 ?_ ?_ ?_ ?_ ?_ ?_ hr2 hI1 ?_
      · simp at hf ⊢; omega
      · exact List.pairwise_append.2 ⟨pp, (List.pairwise_cons.1 pq).2, fun x hx y hy => ppq x hx y (.tail _ hy)⟩
      · simp [hs]
      · intro j hj
        by_cases hji : i = j
        · subst hji
          have : i < listed.size := by omega
          simp [Array.getD, this, hnp, hnq]
        · rw [getD_set_ne true hji, hlt j hj]
          simp [List.mem_append, Ne.symm hji]
      · intro j hj
        refine hts j ?_
        rcases List.mem_append.1 hj with h | h
        · exact List.mem_append_left _ h
        · exact List.mem_append_right _ (.tail _ h)
      · intro j hj x hx
        by_cases hji : i = j
        · subst hji; exact getD_set_true (hBi x hx)
        · rw [getD_set_ne false hji] at hj
          exact getD_set_true (hcl j hj x hx)
      · intro a' w' R' hI'
        exact hQ a' w' R' (hI'.congr e2 e1)

theorem draw_ok (hP : P.follows .mixedOrders = true) (hcall : ∀ f, FnOK P cx.glob gs cx.call f) {ops : Array Oper} {id : Nat} {os : List Opn} {chk : List (Nat × Nat)} (hm : mAll P gs N ops ops.toList os = true) (hd : mDraw ops os chk = true)
    (hI : Inv cx gs N w0 K w R H env a) {env' : Env} {H' : Heap} {l : List (List Nat × List Nat)} (he : evOpsD cx os env H = some ((env', H'), l)) (hap : apartAll l chk = true) {Q : Exit → Act → World → Prop}
    (hQ : ∀ a' w' R', Inv cx gs N w0 K w' R' H' env' a' → Q .normal a' w') : (Code.region id ops true).wp P Q a w := by
  refine wp_region_any hP ?_
  simp only [mDraw, Bool.and_eq_true] at hd
  obtain ⟨d1, d2, d3⟩ := hd
  obtain ⟨L, hr, hl⟩ := evOpsD_runs (full := os) 0 (fun j o h => by simpa using h) he
  have hlen : os.length = ops.size := by rw [← (mAll_get hm).1]; simp
  have hget : ∀ i, i < ops.size → ∃ q, os[i]? = some q := fun i hi => ⟨os[i]'(by omega), by simp [hlen, hi]⟩
  have hev : ∀ (i : Nat) o, os[i]? = some o → ∃ env1 H1, evE cx o env1 H1 = some (L i) := by
    intro i o ho
    have hi : i < os.length := (List.getElem?_eq_some_iff.1 ho).1
    obtain ⟨o', env1, H1, h1, h2⟩ := hr.each i (List.mem_range'_1.2 ⟨Nat.zero_le _, by omega⟩)
    rw [ho] at h1; cases h1
    exact ⟨env1, H1, h2⟩
  rw [hlen] at hr
  refine any_ok hcall hm (B := befs ops.toList []) (L := L) (fun i o ho => ?_) (fun i o ho => ?_) (fun j i hji hi => ?_) ops.size (List.range' 0 ops.size) _ _ R H env a env' H' (by simp) List.pairwise_lt_range' (by simp) (fun j hj => ?_) (fun j hj => ?_) (fun i hi => ?_) hr hI.drawn hQ
  · have := mBack_spec d1 i o (by simpa using ho)
    simpa using this
  · exact mBef_spec d2 i o (by simpa using ho)
  · obtain ⟨oi, hoi⟩ := hget i hi
    obtain ⟨oj, hoj⟩ := hget j (by omega)
    rcases mPairs_spec d3 j i oj oi hji hoj hoi with h | h
    · exact .inl (by simpa using h)
    · refine .inr (pair_apart hap (fun j e h => by simpa using hl j e h) hev hoj hoi (by simpa using h))
  · simp [Array.getD, hj, List.mem_range'_1]
  · have := (List.mem_range'_1.1 hj).2
    omega
  · exfalso
    by_cases h : i < ops.size <;> simp [Array.getD, h] at hi

end

end Go.Ev

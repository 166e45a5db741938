/-
  Each function of the table does what the evaluator says.
-/
import Derived.Test.YtcnipahcheooiaaE28
namespace Go.Ev
open Go
set_option linter.unusedSectionVars false
set_option linter.unusedSimpArgs false
set_option linter.unusedVariables false

section
variable [Frame]
theorem hget_mem : ∀ {l : Heap} {j : Nat} {b : Blk}, hget l j = some b → (j, b) ∈ l
  | [], _, _, h => by cases h
  | (i, c) :: r, j, b, h => by
    simp only [hget] at h
    cases hb : Nat.beq i j with
    | true => rw [hb] at h; cases h; have := nbeq_iff.1 hb; subst this; exact .head _
    | false => rw [hb] at h; exact .tail _ (hget_mem h)
theorem hget_none {l : Heap} {j : Nat} (h : hget l j = none) : j ∉ keys l := by
  induction l with
  | nil => intro hj; cases hj
  | cons p r ih =>
    obtain ⟨i, c⟩ := p
    simp only [hget] at h
    cases hb : Nat.beq i j with
    | true => rw [hb] at h; cases h
    | false =>
      rw [hb] at h
      have := nbeq_false hb
      simp only [keys, List.mem_cons]
      rintro (e | e)
      · exact this e.symm
      · exact ih h e

end

theorem fn_ok {P : Program} {glob : Nat → List PV} {gs : List Nat} (hP : P.follows .mixedOrders = true) {call : FuncId → List PV → Option (PV × List (List PV))} (hcall : ∀ f, FnOK P glob gs call f) (n : Nat)
    {f : FuncId} {fn : IFn} (hm : mFn P gs f fn = true) {args : List PV} {r : PV} (he : evFn ⟨call, glob⟩ (iter n) fn args = some (r, [])) : ownFn P f = true ∧ AnsOK P glob gs f args r := by
  refine ⟨?_, ?_⟩
  · unfold mFn at hm
    split at hm <;> first | (cases hm; done) | skip
    split at hm <;> first | (cases hm; done) | skip
    simp only [Bool.and_eq_true] at hm
    exact hm.2
  intro Z w vs ks hlt hkz hkn hglob hL
  letI fr : Frame := ⟨fun k => Z k ∧ k ∉ ks⟩
  unfold mFn at hm
  split at hm <;> first | (cases hm; done) | skip
  rename_i pf hf
  split at hm <;> first | (cases hm; done) | skip
  rename_i c hb
  simp only [Bool.and_eq_true] at hm
  obtain ⟨⟨⟨hm1, hm2⟩, hm3⟩, _⟩ := hm
  unfold evFn at he
  split at he <;> first | (cases he; done) | skip
  rename_i hnp
  have hnp := nbeq_iff.1 hnp
  obtain ⟨hno, hlen⟩ := hL.noIo
  obtain ⟨e1, e2, e3, e4, e5⟩ := enter_eq (idh 0 args.length) args 0 hno (fun i h1 h2 => adopt_idh _ 0 i h1 h2)
  obtain ⟨R0, ks1, hC, hCl, hCv⟩ := adoptL_rep (idh 0 args.length) 0 noRefs hL hkn e4 (fun _ _ => rfl)
  rw [← e1] at hC
  have hown : ∀ id b r k o, hget (enter 0 args).2 id = some b → R0 id = some r → r.blk = some (k, o) → k ∈ ks1 := by
    intro id b r k o h1 h2 h3
    obtain ⟨r', q1, _, _, q4⟩ := hC.new id b (hget_mem h1)
    rw [h2] at q1; cases q1
    exact q4 k o h3
  have hXZ : ∀ k, Xof (enter 0 args).2 R0 k → Z k := by
    rintro k (hk | ⟨id, b, r, o, h1, _, h3, h4⟩)
    · exact hk.1
    · exact hkz k (hC.sub k (hown id b r k o h1 h3 h4))
  have hH : HRel w R0 (enter 0 args).2 := by
    refine ⟨fun k hk => hlt k hk.1, fun id b r k o h1 _ h3 h4 hF => hF.2 (hC.sub k (hown id b r k o h1 h3 h4)), fun id hid => ?_, fun id b hid => ?_, fun id id' b b' r r' k o o' h1 h1' _ _ h3 h3' h4 h4' => ?_⟩
    · rw [hC.old id (hget_none hid)]; rfl
    · obtain ⟨r', q1, _, q3, _⟩ := hC.new id b (hget_mem hid)
      exact ⟨r', q1, q3 _ _ fun k hk _ => hXZ k hk⟩
    · exact hC.inj id id' r r' k o o' (keys_mem.2 ⟨b, hget_mem h1⟩) (keys_mem.2 ⟨b', hget_mem h1'⟩) h3 h3' h4 h4'
  let a0 : Act := { tmps := vs ++ Array.replicate (pf.ntmps - vs.size) undef, defers := [] }
  have hE : ERel w R0 (enter 0 args).2 (enter 0 args).1 a0.tmps := by
    intro t
    by_cases ht : t < args.length
    · have hta : t < (adoptL (idh 0 args.length) 0 args).1.length := by rw [hCl, ← hlen]; exact ht
      have htv : t < vs.size := by simpa [hlen] using ht
      have h1 := e2 t _ (List.getElem?_eq_getElem hta)
      rw [Nat.zero_add] at h1
      rw [h1]
      have h2 : a0.tmps.getD t undef = vs[t] := by
        simp [a0, Array.getD_eq_getD_getElem?, Array.getElem?_append_left htv, htv]
      rw [h2]
      refine hCv _ (fun k hk _ => hXZ k hk) (fun k hk hk1 => ?_) t _ _ (List.getElem?_eq_getElem hta) (by simp [htv])
      rintro (hF | ⟨id, b, r, o, q1, _, q3, q4⟩)
      · exact hF.2 hk
      · exact hk1 (hown id b r k o q1 q3 q4)
    · rw [e3 t (by omega)]
      exact .any _ _
  have hI : Inv ⟨call, glob⟩ gs pf.ntmps w (fun k => k ∈ ks) w R0 (enter 0 args).2 (enter 0 args).1 a0 := by
    refine ⟨hH, hE, fun g hg => (hglob g hg).mono (Grow.refl w _) (fun k _ hn hx => hn (hXZ k hx)) (RExt.refl _), by simp [a0]; omega, rfl, Grow.refl w _, ?_⟩
    rintro k _ ⟨id, b, r, o, h1, _, h3, h4⟩
    exact hC.sub k (hown id b r k o h1 h3 h4)
  have fin : ∀ {env : Env} {H : Heap}, leave fn args env H = some (r, []) → ∀ a' w' R', Inv ⟨call, glob⟩ gs pf.ntmps w (fun k => k ∈ ks) w' R' H env a' →
      a'.defers = [] ∧ ∃ v, (results pf a'.tmps).run P w' = .ok v w' ∧ ∃ v', Ending.returned v = .returned v' ∧ Grow w (fun k => k ∈ ks) w' ∧
      ∃ (Z' : Nat → Prop) (ks' : List Nat), (∀ k, Z k → k ∉ ks → Z' k) ∧ (∀ k ∈ ks', Z' k ∧ (k ∈ ks ∨ w.heap.size ≤ k)) ∧ (∀ k, Z' k → k < w'.heap.size) ∧ ks'.Nodup ∧ RetR w' Z' r v' ks' := by
    intro env H hl a' w' R' hI'
    unfold leave at hl
    rw [lentOf_nil hno] at hl
    simp only [lends] at hl
    split at hl <;> first | (cases hl; done) | skip
    rename_i qs x s ios y t hg hy
    cases hy
    split at hl <;> first | (cases hl; done) | skip
    rename_i c1 c2 c3
    rw [List.append_nil] at c1
    rw [List.append_nil, List.append_nil] at c2
    rw [List.append_nil, List.append_nil] at c3
    have hH' := hI'.heap
    obtain ⟨us, u1, u2, u3⟩ := resultsL_ok (P := P) hH' hI'.env hm2 fun q hq => gives1_noio hg _ (List.mem_map_of_mem hq)
    obtain ⟨d1, ks', d2, d3, d4⟩ := gives1_rep hH' (seen := s) hg (fun _ h => h) u2 u3
    have hall := hasAll_spec c3
    have hres := results_run u1
    refine ⟨hI'.calm, _, hres, _, rfl, hI'.grow, Zof H R' s, ks', fun k hk hn => ⟨.inl ⟨hk, hn⟩, ?_⟩, fun k hk => ?_, fun k hk => hH'.X_lt hk.1, d3.nodup hH' (nodupN_spec c1) (fun i hi => hall i (List.mem_append_left _ hi)), ?_⟩
    · rintro ⟨i, hi, q, o, q1, q2⟩
      obtain ⟨b, q3, q4⟩ := hall i (List.mem_append_right _ hi)
      exact hH'.off i b q k o q3 q4 q1 q2 ⟨hk, hn⟩
    · obtain ⟨i, hi, q, o, q1, q2⟩ := d3.mem k hk
      obtain ⟨sz, rows, q3⟩ := d4 i hi
      have ho : Own H R' k := ⟨i, _, q, o, q3, rfl, q1, q2⟩
      refine ⟨⟨.inr ho, ?_⟩, ?_⟩
      · rintro ⟨j, hj, q', o', q4, q5⟩
        obtain ⟨b, q6, q7⟩ := hall j (List.mem_append_right _ hj)
        have := hH'.inj i j _ b q q' k o o' q3 q6 rfl q7 q1 q4 q2 q5
        subst this
        exact apartN_spec c2 i hi hj
      · rcases Nat.lt_or_ge k w.heap.size with h | h
        · exact .inl (hI'.own k h ho)
        · exact .inr h
    · match qs, us, hl, d1, d2 with
      | [q], [u], hl, d1, d2 =>
        cases hl
        cases d2 with
        | cons _ _ k1 _ _ k2 h hr =>
          cases hr
          rw [List.append_nil]
          exact .one _ _ _ (d1 _ (.head _)) h
      | [], [], hl, d1, d2 =>
        cases hl
        exact .tuple [] #[] _ d2
      | q1 :: q2 :: qs, v1 :: v2 :: us, hl, d1, d2 =>
        cases hl
        exact .tuple _ _ _ (by simpa using d2)
      | [], _ :: _, _, _, d2 => cases d2
      | _ :: _, [], _, _, d2 => cases d2
      | [_], _ :: _ :: _, _, _, d2 => cases d2 with | cons _ _ _ _ _ _ _ hr => cases hr
      | _ :: _ :: _, [_], _, _, d2 => cases d2 with | cons _ _ _ _ _ _ _ hr => cases hr
  refine calls_of_wp hf hb ?_
  split at he
  · rename_i env H hev
    exact (code_ok hP hcall n fn.body c hm1).use hI hev fun a' w' R' hI' => fin he a' w' R' hI'
  · rename_i env H hev
    exact (code_ok hP hcall n fn.body c hm1).use hI hev fun a' w' R' hI' => fin he a' w' R' hI'
  · cases he

end Go.Ev

/-
  An operation that the checker takes comes to what the evaluator gives.
-/
import Derived.Test.YtcnipahcheooiaaE22
namespace Go.Ev
open Go
set_option linter.unusedSectionVars false
set_option linter.unusedSimpArgs false
set_option linter.unusedVariables false
variable [Frame]

section
variable {P : Program} {cx : Cx} {gs : List Nat} {w : World} {R : Refs} {H : Heap} {env : Env} {a : Act}

theorem mBuild_spec {t : TypeId} {xs : Array (Nat × Operand)} {z : List PV} {ps : List (Nat × Nat × Opd)} (h : mBuild P gs t xs z ps = true) :
    ∃ place zv, (∀ vs, P.built t vs = Instr.fill place (Value.cells zv) vs) ∧ mConstL zv.cells.toList z = true ∧ mParts gs place xs.toList ps = true := by
  unfold mBuild at h
  split at h <;> first | (cases h; done) | skip
  · rename_i it n el hi hu
    split at h <;> first | (cases h; done) | skip
    rename_i v ie hz hie
    simp only [Bool.and_eq_true] at h
    exact ⟨_, v, fun vs => by simp only [Program.built, hi, hu, hz, hie], h.1, h.2⟩
  · rename_i it fields hi hu
    split at h <;> first | (cases h; done) | skip
    rename_i v places hz hp
    simp only [Bool.and_eq_true] at h
    exact ⟨_, v, fun vs => by simp only [Program.built, hi, hu, hz, hp], h.1, h.2⟩

theorem mOp_ok (hH : HRel w R H) (hE : ERel w R H env a.tmps) (hG : GlobOK cx gs w (Xof H R)) (hcall : ∀ f, FnOK P cx.glob gs cx.call f) {o : Oper} {i : IOp} {e : Eff}
    (hm : mOp P gs o i = true) (he : evOp cx env H i = some e) : OpOK P o a w R H e := by
  cases i <;> simp only [mOp] at hm <;> first | (cases hm; done) | skip
  case mov y =>
    split at hm <;> first | (cases hm; done) | skip
    · rename_i x ho; cases he; exact ok_mov hH hE hG (.inl ho) hm
    · rename_i x ho; cases he; exact ok_mov hH hE hG (.inr ho) hm
  case pick =>
    split at hm <;> first | (cases hm; done) | skip
    rename_i ho
    simp only [Bool.and_eq_true] at hm
    exact ok_pick hH hE hG ho hm.1.1 hm.1.2 hm.2 he
  case alloc =>
    split at hm <;> first | (cases hm; done) | skip
    rename_i ho
    obtain ⟨i, v, h1, h2, h3⟩ := mZero_spec hm
    exact ok_alloc hH ho h1 h2 h3 he
  case box =>
    split at hm <;> first | (cases hm; done) | skip
    rename_i ho
    exact ok_box hH hE hG ho hm he
  case build =>
    split at hm <;> first | (cases hm; done) | skip
    rename_i ho
    obtain ⟨place, zv, h1, h2, h3⟩ := mBuild_spec hm
    exact ok_build hH hE hG place ho h1 h2 h3 he
  case bslice =>
    split at hm <;> first | (cases hm; done) | skip
    rename_i ho
    split at hm <;> first | (cases hm; done) | skip
    rename_i el hel
    split at hm <;> first | (cases hm; done) | skip
    rename_i i hi
    simp only [Bool.and_eq_true] at hm
    obtain ⟨⟨⟨⟨⟨h1, h2⟩, h3⟩, h4⟩, h5⟩, h6⟩ := hm
    obtain ⟨z, hz⟩ := Option.isSome_iff_exists.1 h1
    exact ok_bslice hH hE hG ho (sliceEl_spec hel) hi hz (nbeq_iff.1 h2) (blt_iff.1 h3) (nbeq_iff.1 h4) (Nat.le_of_ble_eq_true h5) h6 he
  case load =>
    split at hm <;> first | (cases hm; done) | skip
    rename_i ho
    simp only [Bool.and_eq_true, decide_eq_true_eq, Bool.or_eq_true, Bool.not_eq_true'] at hm
    refine ok_load hH hE hG ho hm.1.1.1 hm.1.1.2 ?_ hm.2 he
    rcases hm.1.2 with h | h
    · exact .inl h
    · exact .inr (by have := blt_iff.1 h; omega)
  case store =>
    split at hm <;> first | (cases hm; done) | skip
    rename_i ho
    simp only [Bool.and_eq_true, decide_eq_true_eq] at hm
    refine ok_store hH hE hG ho hm.1.1.1 hm.1.2 hm.2 ?_ he
    have := hm.1.1.2
    cases h : o.dst with
    | none => rfl
    | some => rw [h] at this; cases this
  case nilchk =>
    split at hm <;> first | (cases hm; done) | skip
    rename_i ho
    exact ok_nilchk hH hE hG ho hm he
  case bin =>
    split at hm <;> first | (cases hm; done) | skip
    rename_i ho
    simp only [Bool.and_eq_true, decide_eq_true_eq] at hm
    obtain ⟨⟨rfl, h1⟩, h2⟩ := hm
    exact ok_bin hH hE hG ho h1 h2 he
  case eq =>
    split at hm <;> first | (cases hm; done) | skip
    rename_i ho
    simp only [Bool.and_eq_true, decide_eq_true_eq, Bool.not_eq_true'] at hm
    obtain ⟨⟨⟨⟨⟨h1, h2⟩, h3⟩, h4⟩, h5⟩, h6⟩ := hm
    rw [h1] at ho
    exact ok_eq hH hE hG ho h2 h3 h4 h5 h6 he
  case un =>
    split at hm <;> first | (cases hm; done) | skip
    rename_i ho
    simp only [Bool.and_eq_true, decide_eq_true_eq] at hm
    obtain ⟨rfl, h1⟩ := hm
    exact ok_un hH hE hG ho h1 he
  case toInt =>
    split at hm <;> first | (cases hm; done) | skip
    rename_i ho
    simp only [Bool.and_eq_true, decide_eq_true_eq] at hm
    obtain ⟨k0, hk⟩ := Option.isSome_iff_exists.1 hm.1.1
    exact ok_toInt hH hE hG ho (intTy_spec hk) (intTy_spec hm.1.2) hm.2 he
  case same =>
    split at hm <;> first | (cases hm; done) | skip
    rename_i ho
    simp only [Bool.and_eq_true] at hm
    exact ok_same hH hE hG ho (isStr_spec hm.1.1) (isStr_spec hm.1.2) hm.2 he
  case mkf =>
    split at hm <;> first | (cases hm; done) | skip
    rename_i ho
    simp only [Bool.and_eq_true, decide_eq_true_eq] at hm
    obtain ⟨⟨rfl, h1⟩, h2⟩ := hm
    rw [size0 h1] at ho
    simp only [evOp] at he
    split at he <;> cases he
    rename_i hcv
    exact ok_mkf hH hE hG ho h2 hcv
  case mki =>
    split at hm <;> first | (cases hm; done) | skip
    rename_i ho
    simp only [Bool.and_eq_true, decide_eq_true_eq] at hm
    obtain ⟨⟨rfl, h1⟩, h2⟩ := hm
    cases he
    exact ok_mki hH hE hG ho (isPlain_spec h1) h2
  case mksl =>
    split at hm <;> first | (cases hm; done) | skip
    rename_i ho
    split at hm <;> first | (cases hm; done) | skip
    rename_i el hel
    simp only [Bool.and_eq_true] at hm
    obtain ⟨⟨⟨⟨h1, h2⟩, h3⟩, h4⟩, h5⟩ := hm
    obtain ⟨i, v, q1, q2, q3, q4, rfl⟩ := mZeroS_spec h1
    exact ok_mksl hH hE hG ho (sliceEl_spec hel) q1 q2 q3 q4 (by
      have := blt_iff.1 h2
      intro e; subst e; simp at this) (blt_iff.1 h3) h4 h5 he
  case slcS =>
    split at hm <;> first | (cases hm; done) | skip
    rename_i ho
    simp only [Bool.and_eq_true] at hm
    exact ok_slcS hH hE hG ho (isStr_spec hm.1.1.1) hm.1.1.2 hm.1.2 hm.2 he
  case slc =>
    split at hm <;> first | (cases hm; done) | skip
    rename_i ho
    split at hm <;> first | (cases hm; done) | skip
    rename_i el hel
    simp only [Bool.and_eq_true, decide_eq_true_eq, Bool.or_eq_true, Bool.not_eq_true'] at hm
    obtain ⟨⟨⟨⟨⟨h1, h2⟩, h3⟩, h4⟩, h5⟩, h6⟩ := hm
    refine ok_slc hH hE hG ho (sliceEl_spec hel) h1 h2 h3 h4 h5 (fun h => ?_) he
    rcases h6 with h6 | h6
    · rw [h] at h6; cases h6
    · exact h6
  case faddr =>
    split at hm <;> first | (cases hm; done) | skip
    rename_i ho
    split at hm <;> first | (cases hm; done) | skip
    rename_i f hf
    obtain ⟨fs, hu, hfs⟩ := fieldOf_spec hf
    simp only [Bool.and_eq_true] at hm
    obtain ⟨⟨h1, h2⟩, h3⟩ := hm
    have h1 := nbeq_iff.1 h1
    subst h1
    split at h2 <;> first | (cases h2; done) | skip
    rename_i n hn
    exact ok_faddr hH hE hG ho hu hfs hn (by have := blt_iff.1 h2; omega) h3 he
  case field =>
    split at hm <;> first | (cases hm; done) | skip
    rename_i ho
    split at hm <;> first | (cases hm; done) | skip
    rename_i f hf
    obtain ⟨fs, hu, hfs⟩ := fieldOf_spec hf
    simp only [Bool.and_eq_true, decide_eq_true_eq] at hm
    obtain ⟨⟨⟨h1, h2⟩, h3⟩, h4⟩ := hm
    have h1 := nbeq_iff.1 h1
    subst h1
    exact ok_field hH hE hG ho hu hfs h2 h3 h4 he
  case iaddr =>
    split at hm <;> first | (cases hm; done) | skip
    rename_i ho
    split at hm <;> first | (cases hm; done) | skip
    rename_i el hel
    simp only [Bool.and_eq_true, decide_eq_true_eq] at hm
    exact ok_iaddr hH hE hG ho (sliceEl_spec hel) hm.1.1 hm.1.2 hm.2 he
  case iaddrA =>
    split at hm <;> first | (cases hm; done) | skip
    rename_i ho
    split at hm <;> first | (cases hm; done) | skip
    rename_i m el hel
    simp only [Bool.and_eq_true, decide_eq_true_eq] at hm
    obtain ⟨⟨⟨h1, h2⟩, h3⟩, h4⟩ := hm
    have h1 := nbeq_iff.1 h1
    subst h1
    exact ok_iaddrA hH hE hG ho (arrayEl_spec hel) h2 h3 h4 he
  case idxS =>
    split at hm <;> first | (cases hm; done) | skip
    rename_i ho
    simp only [Bool.and_eq_true] at hm
    exact ok_idxS hH hE hG ho (isStr_spec hm.1.1) hm.1.2 hm.2 he
  case ext =>
    split at hm <;> first | (cases hm; done) | skip
    rename_i ho
    simp only [Bool.and_eq_true] at hm
    have h1 := nbeq_iff.1 hm.1
    subst h1
    exact ok_ext hH hE hG ho hm.2 he
  case len =>
    split at hm <;> first | (cases hm; done) | skip
    rename_i c hc
    split at hm <;> first | (cases hm; done) | skip
    rename_i x t hx
    simp only [Bool.and_eq_true] at hm
    obtain ⟨el, hel⟩ := Option.isSome_iff_exists.1 hm.1
    obtain ⟨b1, b2⟩ := mBuiltin_spec hc
    obtain ⟨x1, x2⟩ := oneArg_spec hx
    exact ok_len hH hE hG b1 b2 x1 x2 (sliceEl_spec hel) hm.2 he
  case lenS =>
    split at hm <;> first | (cases hm; done) | skip
    rename_i c hc
    split at hm <;> first | (cases hm; done) | skip
    rename_i x t hx
    simp only [Bool.and_eq_true] at hm
    obtain ⟨b1, b2⟩ := mBuiltin_spec hc
    obtain ⟨x1, x2⟩ := oneArg_spec hx
    exact ok_lenS hH hE hG b1 b2 x1 x2 (isStr_spec hm.1) hm.2 he
  case app =>
    split at hm <;> first | (cases hm; done) | skip
    rename_i c hc
    split at hm <;> first | (cases hm; done) | skip
    rename_i x y t u hx
    split at hm <;> first | (cases hm; done) | skip
    rename_i el hel
    simp only [Bool.and_eq_true, Bool.or_eq_true] at hm
    obtain ⟨⟨⟨h1, h2⟩, h3⟩, h4⟩ := hm
    obtain ⟨b1, b2⟩ := mBuiltin_spec hc
    obtain ⟨x1, x2, x3⟩ := twoArgs_spec hx
    obtain ⟨i, v, q1, q2, q3, rfl, q5, q6⟩ := mElem_spec h1
    rcases h2 with h2 | h2
    · obtain ⟨el2, hel2⟩ := Option.isSome_iff_exists.1 h2
      exact ok_app (el2 := el2) hH hE hG b1 b2 x1 x2 (sliceEl_spec hel) q1 q2 x3 (.inl (sliceEl_spec hel2)) q3 q5 q6 h3 h4 he
    · exact ok_app (el2 := el) hH hE hG b1 b2 x1 x2 (sliceEl_spec hel) q1 q2 x3 (.inr (isStr_spec h2)) q3 q5 q6 h3 h4 he
  case copy =>
    split at hm <;> first | (cases hm; done) | skip
    rename_i c hc
    split at hm <;> first | (cases hm; done) | skip
    rename_i x y t u hx
    split at hm <;> first | (cases hm; done) | skip
    rename_i el hel
    simp only [Bool.and_eq_true, decide_eq_true_eq] at hm
    obtain ⟨b1, b2⟩ := mBuiltin_spec hc
    obtain ⟨x1, x2, _⟩ := twoArgs_spec hx
    exact ok_copy hH hE hG b1 b2 x1 x2 (sliceEl_spec hel) hm.1.1 hm.1.2 hm.2 he
  case clear =>
    split at hm <;> first | (cases hm; done) | skip
    rename_i c hc
    split at hm <;> first | (cases hm; done) | skip
    rename_i x t hx
    split at hm <;> first | (cases hm; done) | skip
    rename_i el hel
    simp only [Bool.and_eq_true] at hm
    obtain ⟨b1, b2⟩ := mBuiltin_spec hc
    obtain ⟨x1, x2⟩ := oneArg_spec hx
    obtain ⟨i, v, q1, q2, q3⟩ := mZero_spec hm.1
    exact ok_clear hH hE hG b1 b2 x1 x2 (sliceEl_spec hel) q1 q2 q3 hm.2 he
  case call =>
    split at hm <;> first | (cases hm; done) | skip
    rename_i c ho
    simp only [Bool.and_eq_true] at hm
    obtain ⟨⟨h1, h3⟩, h4⟩ := hm
    exact ok_call hH hE hG ho (calleeIs_spec h1) (hcall _) h3 h4 he
  case most =>
    split at hm <;> first | (cases hm; done) | skip
    rename_i c hc
    obtain ⟨b1, b2⟩ := mBuiltin_spec hc
    exact ok_most hH hE hG b1 b2 hm he
  case least =>
    split at hm <;> first | (cases hm; done) | skip
    rename_i c hc
    obtain ⟨b1, b2⟩ := mBuiltin_spec hc
    exact ok_least hH hE hG b1 b2 hm he
  case toStr =>
    split at hm <;> first | (cases hm; done) | skip
    rename_i ho
    split at hm <;> first | (cases hm; done) | skip
    rename_i el hel
    split at hm <;> first | (cases hm; done) | skip
    rename_i hk
    simp only [Bool.and_eq_true] at hm
    exact ok_toStr hH hE hG ho (sliceEl_spec hel) (intTy_spec hk) (isStr_spec hm.1) hm.2 he
  case callv =>
    split at hm <;> first | (cases hm; done) | skip
    rename_i c ho
    split at hm <;> first | (cases hm; done) | skip
    rename_i fx hc
    simp only [Bool.and_eq_true] at hm
    obtain ⟨⟨h1, h3⟩, h4⟩ := hm
    exact ok_callv hH hE hG ho hc h1 hcall h3 h4 he
  case rng =>
    split at hm <;> first | (cases hm; done) | skip
    rename_i ho
    simp only [Bool.and_eq_true] at hm
    exact ok_rng hH hE hG ho (isStr_spec hm.1) hm.2 he
  case nxt =>
    split at hm <;> first | (cases hm; done) | skip
    rename_i x b ho
    simp only [Bool.and_eq_true] at hm
    obtain ⟨rfl, h1⟩ := hm
    exact ok_nxt hH hE hG ho h1 he

end

end Go.Ev

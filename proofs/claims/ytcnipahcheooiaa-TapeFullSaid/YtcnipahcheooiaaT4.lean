/-
  'stratigraphlaw12.TapeFull' answers true at each input, and leaves the input as it was. No condition.
-/
import Derived.Test.YtcnipahcheooiaaT3
import Derived.Test.YtcnipahcheooiaaE40
import Derived.Test.YtcnipahcheooiaaRows
namespace Go.Proofs.Ytcnipahcheooiaa
open Go Go.Ev Go.ChangeShapes Go.WideShapes Go.ChangeAt Go.RowKit
set_option linter.unusedSectionVars false
set_option linter.unusedSimpArgs false
set_option linter.unusedVariables false

theorem own : ownKnob Try.prog.godebug = none := by kernel_rfl

theorem i8_of {n : Int} (h : (Lit.int .i8 n).wf = true) : -128 ≤ n ∧ n ≤ 127 := by
  simp only [Lit.wf, Bool.and_eq_true, decide_eq_true_eq] at h
  have h1 : IntKind.i8.min = -128 := by decide
  have h2 : IntKind.i8.max = 127 := by decide
  omega

theorem full_any (f m : Int) (h1 : -128 ≤ f) (h2 : f ≤ 127) (g1 : -128 ≤ m) (g2 : m ≤ 127) (w : World) :
    Calls Try.prog 3 #[.int .i8 f, .int .i8 m] w fun e w' => e = .returned (.bool true) ∧ Grown w w' := by
  have h := ans (law 0 f m h1 h2 g1 g2)
  refine (h (fun _ => False) w #[.int .i8 f, .int .i8 m] [] (fun _ h => h.elim) (fun _ h => by cases h) List.nodup_nil (fun _ h => by cases h) ?_).mono ?_
  · exact .cons _ _ [] _ _ [] (.plain _ _ rfl (.int _ _ _)) (.cons _ _ [] _ _ [] (.plain _ _ rfl (.int _ _ _)) .nil)
  · rintro e w' ⟨v, rfl, hG, Z', ks', _, _, _, _, hr⟩
    refine ⟨?_, hG.grown fun k _ hk => by cases hk⟩
    cases hr with
    | one _ _ _ _ hc => cases hc with
      | plain _ _ _ hp => cases hp; rfl

theorem full_lifted (os : Os) (started : os.Started) (H : Type) (enc : TypeId × Value → H) :
    ReturnsInHanded {} Try.checked os 3 .any (Rows.tapeFullSpec.pre6 enc Try.prog Try.f3 Rows.tapeFullRow.domain false) (Rows.tapeFullSpec.post enc Try.prog Try.f3 false true false false) := by
  refine returnsInHanded_of_change (C := Try.checked) own started (by kernel_rfl) Try.func3
    (ChangeSpec.witness6 (enc := enc) (C := Try.checked) false ⟨#[], #[.int .i8 0, .int .i8 0], []⟩ 8 (by kernel_rfl) (by kernel_rfl) (by kernel_rfl) (by kernel_rfl)) ?_
  intro W base args ds gs before hval0 hW hcnd _
  have hval : ∀ (j : Nat) t v, Try.f3.params[j]? = some t → args[j]? = some v → Value.okWide Try.prog W .any base t v := hval0
  have hW' := hW
  obtain ⟨p, q, hA0, hV, rfl, hfz, hnd⟩ := hW
  have hA : DataW.TrodAll enc Try.prog W 0 (fun _ => true) true Try.f3.params.toList args.toList ds p := hA0
  rw [Try.params3] at hA hval
  obtain ⟨v0, v1, d0, d1, p0, p1, rfl, rfl, rfl, h0, h1⟩ := trodAll_two hA
  obtain ⟨rfl, rfl⟩ := trodVars_none hV
  obtain ⟨a, rfl, rfl, rfl, wa⟩ := open_int Try.underlying22 (hval 0 22 v0 rfl rfl) h0
  obtain ⟨b, rfl, rfl, rfl, wb⟩ := open_int Try.underlying22 (hval 1 22 v1 rfl rfl) h1
  clear hA0 hval0
  simp only [List.append_nil] at hW'
  obtain ⟨a1, a2⟩ := i8_of wa
  obtain ⟨b1, b2⟩ := i8_of wb
  refine (full_any a b a1 a2 b1 b2 W).mono fun e W' ⟨he, hw⟩ => ?_
  subst he
  exact ⟨_, rfl, post_of_same (pa := []) (pv := []) hW' (fun _ _ _ => trodAll_mk1 (shut_bool Try.underlying4 true)) (fun sp _ => trodAll_mk2 (shut_int Try.underlying22 wa) (shut_int Try.underlying22 wb)) (fun _ _ => rfl) rfl
    (hw.frame _) hw.2.1 (ok_one (by kernel_rfl) rfl (okWide_bool_mk Try.underlying4 true))⟩

theorem full_holds : Rows.TapeFullSaid :=
  OpenClaim.holds_of_wide 3 Try.f3 rfl rfl rfl rfl rfl rfl rfl ⟨rfl, rfl, rfl, rfl, rfl⟩ rfl rfl rfl rfl rfl (by kernel_rfl) Try.func3 (by kernel_rfl)
    (of_decide_eq_true (by kernel_rfl)) (by unfold Func.isWrapper; first | (rw [if_pos (by decide +kernel)]; kernel_rfl) | (rw [if_neg (by decide +kernel)]; exact ⟨rfl, rfl⟩))
    (fun os started H enc _ => full_lifted os started H enc)

#print axioms full_holds
end Go.Proofs.Ytcnipahcheooiaa

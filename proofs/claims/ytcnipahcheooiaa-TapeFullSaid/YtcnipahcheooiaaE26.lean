/-
  Code: what the evaluator comes to, the program comes to.
-/
import Derived.Test.YtcnipahcheooiaaE25
namespace Go.Ev
open Go
set_option linter.unusedSectionVars false
set_option linter.unusedSimpArgs false
set_option linter.unusedVariables false
variable [Frame]

def toExit : Ex → Exit
  | .nor => .normal
  | .exit id => .exit id
  | .ret => .ret

def mCode (P : Program) (gs : List Nat) (N : Nat) : IC → Code → Bool
  | .seq a b, c => match a with
    | .gh _ => mCode P gs N b c
    | a => match c with
      | .seq x y => mCode P gs N a x && mCode P gs N b y
      | _ => false
  | .skip, c => match c with | .skip => true | _ => false
  | .reg os, c => match c with
    | .region _ ops draw => !draw && mAll P gs N ops ops.toList os
    | _ => false
  | .dreg os chk, c => match c with
    | .region _ ops draw => draw && mAll P gs N ops ops.toList os && mDraw ops os chk
    | _ => false
  | .gh _, _ => false
  | .cond c' a b, c => match c with
    | .cond x p q => mOpd gs x c' && mCode P gs N a p && mCode P gs N b q
    | _ => false
  | .block id b, c => match c with
    | .block i x => Nat.beq i id && mCode P gs N b x
    | _ => false
  | .loop b, c => match c with
    | .loop x => mCode P gs N b x
    | _ => false
  | .exit id, c => match c with
    | .exit i => Nat.beq i id
    | _ => false
  | .ret, c => match c with
    | .ret => true
    | _ => false
  | .stop, _ => false

section
variable {P : Program} {cx : Cx} {gs : List Nat} {N : Nat} {w0 : World} {K : Nat → Prop}

/-- What a piece of code does. -/
def CodeOK (P : Program) (cx : Cx) (gs : List Nat) (N : Nat) (w0 : World) (K : Nat → Prop) (c : Code) (f : Env → Heap → Out) : Prop :=
  ∀ (w : World) (R : Refs) (H : Heap) (env : Env) (a : Act) (ex : Ex) (env' : Env) (H' : Heap), Inv cx gs N w0 K w R H env a → f env H = some (ex, env', H') →
    ∀ (Q : Exit → Act → World → Prop), (∀ a' w' R', Inv cx gs N w0 K w' R' H' env' a' → Q (toExit ex) a' w') → c.wp P Q a w

theorem CodeOK.use {c : Code} {f : Env → Heap → Out} (h : CodeOK P cx gs N w0 K c f) {w : World} {R : Refs} {H : Heap} {env : Env} {a : Act} {ex : Ex} {env' : Env} {H' : Heap} (hI : Inv cx gs N w0 K w R H env a)
    (he : f env H = some (ex, env', H')) {Q : Exit → Act → World → Prop} (hQ : ∀ a' w' R', Inv cx gs N w0 K w' R' H' env' a' → Q (toExit ex) a' w') : c.wp P Q a w := h _ _ _ _ _ _ _ _ hI he _ hQ

theorem loop_ok {c : Code} {f : Env → Heap → Out} (hc : CodeOK P cx gs N w0 K c f) : ∀ n : Nat, CodeOK P cx gs N w0 K (.loop c) (iter n f) := by
  have key : ∀ (n : Nat) {w : World} {R : Refs} {H : Heap} {env : Env} {a : Act} {ex : Ex} {env' : Env} {H' : Heap}, Inv cx gs N w0 K w R H env a → iter n f env H = some (ex, env', H') →
      ∀ {Q : Exit → Act → World → Prop}, (∀ a' w' R', Inv cx gs N w0 K w' R' H' env' a' → Q (toExit ex) a' w') → ∀ (b : Go.Frame) (k : List Item) (cs : List Go.Frame),
      ∃ e a' w', Q e a' w' ∧ Arrives P (lone (b.at a (.code c :: .inLoop c :: k)) cs w) b k cs e a' w' := by
    intro n
    induction n with
    | zero => intro w R H env a ex env' H' _ he; cases he
    | succ n ih =>
      intro w R H env a ex env' H' hI he Q hQ b k cs
      simp only [iter] at he
      cases hf : f env H with
      | none => rw [hf] at he; cases he
      | some r =>
        obtain ⟨ex1, env1, H1⟩ := r
        rw [hf] at he
        cases ex1 with
        | nor =>
          simp only at he
          obtain ⟨e, a₁, w₁, hq, harr⟩ := hc.use hI hf (Q := fun e a' w' => e = .normal ∧ ∃ R', Inv cx gs N w0 K w' R' H1 env1 a') (fun a' w' R' h => ⟨rfl, R', h⟩) b (.inLoop c :: k) cs
          obtain ⟨rfl, R', hI'⟩ := hq
          obtain ⟨e₂, a₂, w₂, hq₂, harr₂⟩ := ih hI' he hQ b k cs
          exact ⟨e₂, a₂, w₂, hq₂, .of_steps (Steps.trans harr (.one step_inLoop)) harr₂⟩
        | exit id =>
          simp only at he; cases he
          obtain ⟨e, a₁, w₁, hq, harr⟩ := hc.use hI hf (Q := fun e a' w' => e = .exit id ∧ Q e a' w') (fun a' w' R' h => ⟨rfl, hQ a' w' R' h⟩) b (.inLoop c :: k) cs
          obtain ⟨rfl, hq⟩ := hq
          exact ⟨_, a₁, w₁, hq, .pass (x := .inLoop c) rfl (fun _ _ => .inl (by simp)) harr⟩
        | ret =>
          simp only at he; cases he
          obtain ⟨e, a₁, w₁, hq, harr⟩ := hc.use hI hf (Q := fun e a' w' => e = .ret ∧ Q e a' w') (fun a' w' R' h => ⟨rfl, hQ a' w' R' h⟩) b (.inLoop c :: k) cs
          obtain ⟨rfl, hq⟩ := hq
          exact ⟨_, a₁, w₁, hq, .pass (x := .inLoop c) rfl (fun _ _ => .inl (by simp)) harr⟩
  intro n w R H env a ex env' H' hI he Q hQ b k cs
  obtain ⟨e, a', w', hq, harr⟩ := key n hI he hQ b k cs
  exact ⟨e, a', w', hq, .of_steps (.one step_loop) harr⟩

theorem code_ok (hP : P.follows .mixedOrders = true) (hcall : ∀ f, FnOK P cx.glob gs cx.call f) (n : Nat) : ∀ (ic : IC) (c : Code), mCode P gs N ic c = true → CodeOK P cx gs N w0 K c (evCode cx (iter n) ic)
  | .skip, c, hm => by
    intro w R H env a ex env' H' hI he Q hQ
    simp only [mCode] at hm
    split at hm <;> first | (cases hm; done) | skip
    simp only [evCode] at he; cases he
    exact wp_skip (hQ a w R hI)
  | .reg os, c, hm => by
    intro w R H env a ex env' H' hI he Q hQ
    simp only [mCode] at hm
    split at hm <;> first | (cases hm; done) | skip
    rename_i id ops draw
    simp only [Bool.and_eq_true, Bool.not_eq_true'] at hm
    obtain ⟨rfl, hm⟩ := hm
    simp only [evCode] at he
    split at he <;> cases he
    rename_i he
    exact region_ok hcall hm hI he hQ
  | .dreg os chk, c, hm => by
    intro w R H env a ex env' H' hI he Q hQ
    simp only [mCode] at hm
    split at hm <;> first | (cases hm; done) | skip
    rename_i id ops draw
    simp only [Bool.and_eq_true] at hm
    obtain ⟨⟨rfl, hm⟩, hd⟩ := hm
    simp only [evCode] at he
    split at he <;> first | (cases he; done) | skip
    rename_i l hl
    split at he <;> cases he
    rename_i hap
    exact draw_ok hP hcall hm hd hI hl hap hQ
  | .gh g, c, hm => by simp [mCode] at hm
  | .seq a b, c, hm => by
    intro w R H env act ex env' H' hI he Q hQ
    have two : ∀ x y, c = .seq x y → mCode P gs N a x = true → mCode P gs N b y = true → c.wp P Q act w := by
      rintro x y rfl h1 h2
      refine wp_seq ?_
      simp only [evCode] at he
      split at he
      · rename_i env1 H1 h3
        exact (code_ok hP hcall n a x h1).use hI h3 fun a' w' R' hI' => (code_ok hP hcall n b y h2).use hI' he hQ
      · rename_i hne
        refine (code_ok hP hcall n a x h1).use hI he fun a' w' R' hI' => ?_
        have := hQ a' w' R' hI'
        cases ex with
        | nor => exact absurd he (hne _ _)
        | exit id => exact this
        | ret => exact this
    cases a with
    | gh g =>
      simp only [mCode] at hm
      simp only [evCode] at he
      split at he
      · rename_i env1 H1 h3
        split at h3 <;> cases h3
        rename_i h4
        obtain ⟨R', hI'⟩ := gh_ok hI h4
        exact (code_ok hP hcall n b c hm).use hI' he hQ
      · rename_i r hne
        cases hg : evGh g env H with
        | none => rw [hg] at he; cases he
        | some z => obtain ⟨env1, H1⟩ := z; exact absurd (by rw [hg]) (hne env1 H1)
    | _ =>
      simp only [mCode] at hm
      split at hm <;> first | (cases hm; done) | (rename_i x y; simp only [Bool.and_eq_true] at hm; exact two x y rfl (by simpa only [mCode] using hm.1) hm.2)
  | .cond c' p q, c, hm => by
    intro w R H env a ex env' H' hI he Q hQ
    simp only [mCode] at hm
    split at hm <;> first | (cases hm; done) | skip
    rename_i x y z
    simp only [Bool.and_eq_true] at hm
    obtain ⟨⟨h1, h2⟩, h3⟩ := hm
    have hr := opd_rep hI.env hI.glob h1
    simp only [evCode] at he
    split at he <;> first | (cases he; done) | skip
    rename_i b hb
    rw [hb] at hr
    generalize hv : a.eval x = v at hr
    cases hr
    split at he
    · exact wp_cond_true hv ((code_ok hP hcall n p y h2).use hI he hQ)
    · exact wp_cond_false hv ((code_ok hP hcall n q z h3).use hI he hQ)
  | .block id b, c, hm => by
    intro w R H env a ex env' H' hI he Q hQ
    simp only [mCode] at hm
    split at hm <;> first | (cases hm; done) | skip
    rename_i i x
    simp only [Bool.and_eq_true] at hm
    have hid := nbeq_iff.1 hm.1
    subst hid
    refine wp_block ?_
    simp only [evCode] at he
    split at he
    · rename_i j env1 H1 h3
      split at he
      · rename_i hb
        cases he
        have := nbeq_iff.1 hb
        subst this
        exact (code_ok hP hcall n b x hm.2).use hI h3 fun a' w' R' hI' => by
          simpa [Exit.inBlock, toExit] using hQ a' w' R' hI'
      · rename_i hb
        cases he
        have := nbeq_false hb
        exact (code_ok hP hcall n b x hm.2).use hI h3 fun a' w' R' hI' => by
          simpa [Exit.inBlock, toExit, this] using hQ a' w' R' hI'
    · rename_i hne
      refine (code_ok hP hcall n b x hm.2).use hI he fun a' w' R' hI' => ?_
      have := hQ a' w' R' hI'
      cases ex with
      | nor => exact this
      | exit id => exact absurd he (hne _ _ _)
      | ret => exact this
  | .loop b, c, hm => by
    intro w R H env a ex env' H' hI he Q hQ
    simp only [mCode] at hm
    split at hm <;> first | (cases hm; done) | skip
    rename_i x
    exact (loop_ok (code_ok hP hcall n b x hm) n).use hI (by simpa only [evCode] using he) hQ
  | .exit id, c, hm => by
    intro w R H env a ex env' H' hI he Q hQ
    simp only [mCode] at hm
    split at hm <;> first | (cases hm; done) | skip
    rename_i i
    have := nbeq_iff.1 hm
    subst this
    simp only [evCode] at he; cases he
    exact wp_exit (hQ a w R hI)
  | .ret, c, hm => by
    intro w R H env a ex env' H' hI he Q hQ
    simp only [mCode] at hm
    split at hm <;> first | (cases hm; done) | skip
    simp only [evCode] at he; cases he
    exact wp_ret (hQ a w R hI)
  | .stop, c, hm => by simp [mCode] at hm

end

end Go.Ev

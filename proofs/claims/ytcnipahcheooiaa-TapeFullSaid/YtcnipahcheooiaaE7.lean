/-
  Slices of slices and of texts, closures, built values, comparisons and arithmetic: each comes to the value that the evaluator gives.
-/
import Derived.Test.YtcnipahcheooiaaE6
namespace Go.Ev
open Go
set_option linter.unusedSectionVars false
set_option linter.unusedSimpArgs false
set_option linter.unusedVariables false
variable [Frame]

section
variable {P : Program} {cx : Cx} {gs : List Nat} {w : World} {R : Refs} {H : Heap} {env : Env} {a : Act}

def mOpt (gs : List Nat) : Option Operand → Option Opd → Bool
  | none, none => true
  | some x, some y => mOpd gs x y
  | _, _ => false

theorem within_spec {v : PV} {least most n : Nat} (h : within v least most = some n) : ∃ k m, v = .int k m ∧ (least : Int) ≤ m ∧ m ≤ most ∧ n = m.toNat := by
  unfold within at h
  split at h <;> first | (cases h; done) | skip
  split at h <;> first | (cases h; done) | skip
  split at h <;> cases h
  exact ⟨_, _, rfl, by assumption, by assumption, rfl⟩

/-- A bound of a slice expression: the model's own reckoning. -/
theorem bound_run (hE : ERel w R H env a.tmps) (hG : GlobOK cx gs w (Xof H R)) {x : Option Operand} {x' : Option Opd} (hx : mOpt gs x x' = true)
    {most dflt n : Nat} (h : bound (opd cx env) x' 0 most dflt = some n) (code : BoundsCode) :
    (x = none ∧ x' = none ∧ n = dflt) ∨ (∃ y, x = some y ∧ x'.isSome = true ∧ n ≤ most ∧ ∀ big, most ≤ big → (Instr.sliceBound (a.eval y) big code).run P w = .ok n w) := by
  cases x with
  | none => cases x' with
    | none => simp [bound] at h; exact .inl ⟨rfl, rfl, h.symm⟩
    | some _ => simp [mOpt] at hx
  | some y => cases x' with
    | none => simp [mOpt] at hx
    | some y' =>
      simp only [bound] at h
      simp only [mOpt] at hx
      have ry := opd_rep hE hG hx
      obtain ⟨k, m, hv, h0, h1, rfl⟩ := within_spec h
      rw [hv] at ry
      generalize hy : a.eval y = v at ry
      cases ry
      refine .inr ⟨y, rfl, rfl, by omega, fun big hbig => ?_⟩
      rw [hy]
      exact run_sliceBound (P := P) (w := w) k m big code (by omega) (by omega)

theorem bytes_extract (s : List UInt8) (l h : Nat) : (⟨s.toArray⟩ : ByteArray).extract l h = ⟨((s.take h).drop l).toArray⟩ := by
  apply ByteArray.ext
  simp [ByteArray.data_extract, List.drop_take]

theorem ok_slcS (hH : HRel w R H) (hE : ERel w R H env a.tmps) (hG : GlobOK cx gs w (Xof H R)) {o : Oper} {t : TypeId} {x : Operand} {lo hi : Option Operand} {x' : Opd} {lo' hi' : Option Opd} {e : Eff}
    (ho : o.op = .slice t x lo hi none) (ht : P.underlying t = some .string)
    (hx : mOpd gs x x' = true) (hl : mOpt gs lo lo' = true) (hh : mOpt gs hi hi' = true) (he : evOp cx env H (.slcS x' lo' hi') = some e) : OpOK P o a w R H e := by
  have rx := opd_rep hE hG hx
  simp only [evOp] at he
  generalize hp : opd cx env x' = pv at rx he
  generalize hv : a.eval x = v at rx
  cases pv <;> (try simp only at he) <;> first | (cases he; done) | skip
  rename_i s
  cases rx
  cases hbh : bound (opd cx env) hi' 0 s.length s.length with
  | none => rw [hbh] at he; cases he
  | some h =>
    rw [hbh] at he
    simp only at he
    cases hbl : bound (opd cx env) lo' 0 h 0 with
    | none => rw [hbl] at he; cases he
    | some l =>
      rw [hbl] at he; cases he
      have r1 := bound_run (P := P) (a := a) hE hG hh hbh .sliceAlen
      have r2 := bound_run (P := P) (a := a) hE hG hl hbl .sliceB
      refine OpOK.pure hH (v := .string ⟨((s.take h).drop l).toArray⟩) ?_ (.str R _)
      rw [← bytes_extract]
      simp only [execOp, ho, Instr.sliceAt, Instr.slice, Instr.sliceBounds, hv, Sem.run_bind, run_underlying' ht, Result.andThen_ok]
      rcases r1 with ⟨rfl, rfl, rfl⟩ | ⟨y, rfl, _, _, hr1⟩ <;> rcases r2 with ⟨rfl, rfl, rfl⟩ | ⟨z, rfl, _, _, hr2⟩ <;> simp [size_mk, *]

theorem szOK_spec {n : Nat} : ∀ {rows : List (List PV)}, szOK n rows = true → ∀ (i : Nat) (row : List PV), rows[i]? = some row → row.length = n
  | [], _, i, row, hi => by simp at hi
  | r :: s, h, i, row, hi => by
    simp only [szOK] at h
    split at h <;> first | (cases h; done) | skip
    rename_i hb
    cases i with
    | zero => simp at hi; subst hi; exact Nat.eq_of_beq_eq_true hb
    | succ i => simp at hi; exact szOK_spec h i row hi

theorem ro_inv {X : Nat → Prop} {rows : List (List PV)} {v : Value} (h0 : Rep w X R (.ro rows) v) : ∃ ad c, v = .slice ad rows.length c ∧ rows.length ≤ c := by
  cases h0 with
  | ro0 _ ad c => exact ⟨ad, c, rfl, by simp⟩
  | ro _ k q sz' _ c vs hk hs hl hz hc hr => exact ⟨_, c, rfl, hl⟩

theorem ro_slice {X : Nat → Prop} {rows : List (List PV)} {ad : Option Addr} {c sz l h m : Nat} (h0 : Rep w X R (.ro rows) (.slice ad rows.length c))
    (hsz : l ≠ 0 → ∀ (i : Nat) (row : List PV), rows[i]? = some row → row.length = sz) (h1 : l ≤ h) (h2 : h ≤ rows.length) (h3 : h ≤ m) (h4 : m ≤ c) :
    Rep w X R (.ro ((rows.take h).drop l)) (.slice (if m = l then ad else ad.map (·.add (l * sz))) (h - l) (m - l)) := by
  by_cases hlh : l = h
  · have e1 : (rows.take h).drop l = [] := by apply List.drop_eq_nil_of_le; simp; omega
    rw [e1, show h - l = 0 by omega]
    exact .ro0 R _ _
  · rw [if_neg (by omega)]
    cases h0 with
    | ro0 => simp at h2; omega
    | ro _ k q sz' _ c vs hk hs hl hz hc hr =>
      have hlen : ((rows.take h).drop l).length = h - l := by simp; omega
      have hget : ∀ (i : Nat) (row : List PV), ((rows.take h).drop l)[i]? = some row → rows[l + i]? = some row := by
        intro i row hi
        rw [List.getElem?_drop, List.getElem?_take] at hi
        split at hi
        · exact hi
        · cases hi
      have hs0 : l * sz = l * sz' := by
        by_cases e : l = 0
        · subst e; simp
        · have hlt : 0 < rows.length := by omega
          have a1 := hsz e 0 rows[0] (by simp)
          have a2 := hz 0 rows[0] (by simp)
          rw [← a1, ← a2]
      rw [← hlen]
      simp only [Option.map_some, add_none, hs0]
      refine .ro R k (q + l * sz') sz' _ _ (fun i j => vs (l + i) j) hk hs (by rw [hlen]; omega) (fun i row hi => hz _ row (hget i row hi)) (fun i row j pv hi hj => ?_) (fun i row j pv hi hj => hr _ row j pv (hget i row hi) hj)
      have := hc _ row j pv (hget i row hi) hj
      rwa [show q + (l + i) * sz' + j = q + l * sz' + i * sz' + j by rw [Nat.add_mul]; omega] at this

theorem mOpt_isSome {x : Option Operand} {x' : Option Opd} (h : mOpt gs x x' = true) : x.isSome = x'.isSome := by
  cases x <;> cases x' <;> simp [mOpt] at h ⊢

/-- The model's reckoning of a slice expression over a slice. -/
theorem run_slc {o : Oper} {t el : TypeId} {x : Operand} {lo hi mx : Option Operand} {ad : Option Addr} {len cap esz : Nat}
    (ho : o.op = .slice t x lo hi mx) (ht : P.underlying t = some (.slice el)) (hsz : tySize P el = some esz) (hv : a.eval x = .slice ad len cap)
    {lo' hi' mx' : Option Opd} (hE : ERel w R H env a.tmps) (hG : GlobOK cx gs w (Xof H R))
    (hl : mOpt gs lo lo' = true) (hh : mOpt gs hi hi' = true) (hm : mOpt gs mx mx' = true) (hmh : mx'.isSome = true → hi'.isSome = true)
    {most m h l : Nat} (hmost : most ≤ cap) (hml : len ≤ most)
    (e1 : bound (opd cx env) mx' 0 most len = some m) (e2 : bound (opd cx env) hi' 0 m len = some h) (e3 : bound (opd cx env) lo' 0 h 0 = some l) :
    ∃ M, (mx' = none → M = cap) ∧ (mx'.isSome = true → M = m) ∧ h ≤ M ∧ M ≤ cap ∧ l ≤ h ∧
      (execOp a.eval o).run P w = .ok (.value (.slice (if M = l then ad else ad.map (·.add (l * esz))) (h - l) (M - l))) w := by
  have r1 := bound_run (P := P) (a := a) hE hG hm e1
  have r2 := bound_run (P := P) (a := a) hE hG hh e2
  have r3 := bound_run (P := P) (a := a) hE hG hl e3
  have hsb : ∃ M, (mx' = none → M = cap) ∧ (mx'.isSome = true → M = m) ∧ h ≤ M ∧ M ≤ cap ∧ l ≤ h ∧
      (Instr.sliceBounds true len cap (lo.map a.eval) (hi.map a.eval) (mx.map a.eval)).run P w = .ok (l, h, M) w := by
    have hll : l ≤ h := by
      rcases r3 .sliceB with ⟨_, _, rfl⟩ | ⟨_, _, _, hle, _⟩
      · omega
      · exact hle
    cases hmx : mx' with
    | none =>
      have hmn : mx = none := by
        have := mOpt_isSome hm; rw [hmx] at this; cases mx <;> simp_all
      subst hmn
      have hmv : m = len := by rw [hmx] at e1; simp [bound] at e1; exact e1.symm
      refine ⟨cap, fun _ => rfl, fun h => by simp at h, ?_, Nat.le_refl _, hll, ?_⟩
      · rcases r2 .sliceAcap with ⟨_, _, rfl⟩ | ⟨_, _, _, hle, _⟩ <;> omega
      · rcases r2 .sliceAcap with ⟨rfl, _, rfl⟩ | ⟨y, rfl, _, hle, hr2⟩ <;> rcases r3 .sliceB with ⟨rfl, _, rfl⟩ | ⟨z, rfl, _, hle3, hr3⟩ <;>
          simp only [Instr.sliceBounds, Option.map_none, Option.map_some, Sem.run_bind, Sem.run_pure, Result.andThen_ok, if_true, Option.isSome_none, Bool.false_eq_true, if_false]
        · rw [hr3 h (Nat.le_refl _)]; rfl
        · rw [hr2 cap (by omega)]; rfl
        · rw [hr2 cap (by omega)]; simp only [Result.andThen_ok]; rw [hr3 h (Nat.le_refl _)]; rfl
    | some mo =>
      rw [hmx] at hmh hm e1
      have hms : mx.isSome = true := by rw [mOpt_isSome hm]; rfl
      have hhs : hi.isSome = true := by rw [mOpt_isSome hh]; exact hmh rfl
      rcases r1 .slice3Acap with ⟨rfl, _, _⟩ | ⟨x1, rfl, _, hle1, hr1⟩
      · cases hms
      rcases r2 .slice3B with ⟨rfl, _, _⟩ | ⟨x2, rfl, _, hle2, hr2⟩
      · cases hhs
      refine ⟨m, fun h => (by cases h), fun _ => rfl, hle2, by omega, hll, ?_⟩
      rcases r3 .slice3C with ⟨rfl, _, rfl⟩ | ⟨z, rfl, _, hle3, hr3⟩ <;>
        simp only [Instr.sliceBounds, Option.map_none, Option.map_some, Sem.run_bind, Sem.run_pure, Result.andThen_ok, if_true, Option.isSome_some]
      · rw [hr1 cap hmost]; simp only [Result.andThen_ok]; rw [hr2 m (Nat.le_refl _)]; rfl
      · rw [hr1 cap hmost]; simp only [Result.andThen_ok]; rw [hr2 m (Nat.le_refl _)]; simp only [Result.andThen_ok]; rw [hr3 h (Nat.le_refl _)]; rfl
  obtain ⟨M, a1, a2, a3, a4, a5, hrun⟩ := hsb
  refine ⟨M, a1, a2, a3, a4, a5, ?_⟩
  simp only [execOp, ho, Instr.sliceAt, Instr.slice, hv, Sem.run_bind, run_underlying' ht, Result.andThen_ok, hrun, run_sizeOf' hsz, Sem.run_pure]

theorem ok_slc (hH : HRel w R H) (hE : ERel w R H env a.tmps) (hG : GlobOK cx gs w (Xof H R)) {o : Oper} {t el : TypeId} {x : Operand} {lo hi mx : Option Operand} {x' : Opd} {lo' hi' mx' : Option Opd} {esz : Nat} {e : Eff}
    (ho : o.op = .slice t x lo hi mx) (ht : P.underlying t = some (.slice el)) (hsz : tySize P el = some esz)
    (hx : mOpd gs x x' = true) (hl : mOpt gs lo lo' = true) (hh : mOpt gs hi hi' = true) (hm : mOpt gs mx mx' = true) (hmh : mx'.isSome = true → hi'.isSome = true)
    (he : evOp cx env H (.slc esz x' lo' hi' mx') = some e) : OpOK P o a w R H e := by
  have rx := opd_rep hE hG hx
  simp only [evOp] at he
  generalize hp : opd cx env x' = pv at rx he
  generalize hv : a.eval x = v at rx
  cases pv <;> (try simp only at he) <;> first | (cases he; done) | skip
  · cases rx
    rename_i ad
    split at he <;> cases he
    rename_i m h l e1 e2 e3
    have e2' : bound (opd cx env) hi' 0 m 0 = some h := by
      cases hi' with
      | none => exact e2
      | some y =>
        have b1 : m = 0 := by
          cases mx' with
          | none => simp [bound] at e1; exact e1.symm
          | some z => simp only [bound] at e1; obtain ⟨_, _, _, _, _, rfl⟩ := within_spec e1; omega
        rw [b1]; exact e2
    have b2 : h = 0 := by
      cases hi' with
      | none => simp [bound] at e2; exact e2.symm
      | some z => simp only [bound] at e2; obtain ⟨_, _, _, _, _, rfl⟩ := within_spec e2; omega
    obtain ⟨M, a1, a2, a3, a4, a5, hrun⟩ := run_slc ho ht hsz hv hE hG hl hh hm hmh (Nat.le_refl 0) (Nat.le_refl 0) e1 e2' (by rw [b2]; exact e3)
    have hM : M = 0 := by omega
    subst hM
    have hl0 : l = 0 := by omega
    subst hl0
    refine OpOK.pure hH hrun ?_
    rw [b2]
    exact .nul R _
  · rename_i rows
    obtain ⟨ad, c, rfl, hc⟩ := ro_inv rx
    split at he <;> first | (cases he; done) | skip
    rename_i m hsh e1
    cases e2 : bound (opd cx env) hi' 0 m rows.length with
    | none => rw [e2] at he; cases he
    | some h =>
      rw [e2] at he; simp only at he
      cases e3 : bound (opd cx env) lo' 0 h 0 with
      | none => rw [e3] at he; cases he
      | some l =>
        rw [e3] at he; simp only at he
        obtain ⟨M, a1, a2, a3, a4, a5, hrun⟩ := run_slc ho ht hsz hv hE hG hl hh hm hmh hc (Nat.le_refl _) e1 e2 e3
        have hmle : m ≤ rows.length := by
          cases mx' with
          | none => simp [bound] at e1; omega
          | some z => simp only [bound] at e1; obtain ⟨_, _, _, _, hle, rfl⟩ := within_spec e1; omega
        have hhle : h ≤ rows.length := by
          cases hi' with
          | none => simp [bound] at e2; omega
          | some z => simp only [bound] at e2; obtain ⟨_, _, _, _, hle, rfl⟩ := within_spec e2; omega
        have hrows : l ≠ 0 → ∀ (i : Nat) (row : List PV), rows[i]? = some row → row.length = esz := by
          intro hne
          cases lo' with
          | none => simp [bound] at e3; omega
          | some z => exact szOK_spec hsh
        have hro := ro_slice rx hrows a5 hhle a3 a4
        cases mx' with
        | none =>
          simp only at he; cases he
          exact OpOK.pure hH hrun hro
        | some z =>
          simp only at he
          have hMm := a2 rfl
          split at he <;> cases he
          · rename_i hb
            have hb := Nat.eq_of_beq_eq_true hb
            refine OpOK.pure hH hrun ?_
            rw [hMm, show h - l = 0 by omega, show m - l = 0 by omega]
            exact .nul R _
          · exact OpOK.pure hH hrun hro
  · rename_i id off len cl
    have key : ∀ (sz : Nat) (rows : List (List PV)), (hget H id = some (.arr sz rows) ∨ hget H id = some (.froz sz rows)) →
        (match Nat.beq rows.length cl, Nat.beq sz esz, bound (opd cx env) mx' 0 len len with
        | true, true, some m => match bound (opd cx env) hi' 0 m len with
          | some h => match bound (opd cx env) lo' 0 h 0 with
            | some l => match (generalizing := false) mx' with
              | none => some (⟨.own id (off + l) (h - l) cl, [], [id]⟩ : Eff)
              | some _ => match Nat.beq m l with
                | true => some ⟨.nul, [], [id]⟩
                | false => some ⟨.any, [], [id]⟩
            | none => none
          | none => none
        | _, _, _ => none) = some e → OpOK P o a w R H e := by
      intro sz rows hg he
      split at he <;> first | (cases he; done) | skip
      rename_i m hb hsh e1
      have hvo : validO H id cl = true := by
        unfold validO
        rcases hg with hg | hg <;> rw [hg] <;> exact hb
      have hB : ∃ r, R id = some r ∧ r.sz = sz := by
        rcases hg with hg | hg
        · obtain ⟨r, h1, _, _, h2, _⟩ := hH.has id _ hg; exact ⟨r, h1, h2⟩
        · obtain ⟨r, h1, _, _, h2, _⟩ := hH.has id _ hg; exact ⟨r, h1, h2⟩
      cases e2 : bound (opd cx env) hi' 0 m len with
      | none => rw [e2] at he; cases he
      | some h =>
        rw [e2] at he; simp only at he
        cases e3 : bound (opd cx env) lo' 0 h 0 with
        | none => rw [e3] at he; cases he
        | some l =>
          rw [e3] at he; simp only at he
          obtain ⟨r0, hr0, hsz0⟩ := hB
          obtain ⟨r, hr1, hcl, hbx, hcase⟩ := own_real hH hvo rx
          rw [hr0] at hr1; cases hr1
          have hmle : m ≤ len := by
            cases mx' with
            | none => simp [bound] at e1; omega
            | some z => simp only [bound] at e1; obtain ⟨_, _, _, _, hle, rfl⟩ := within_spec e1; omega
          have hhle : h ≤ len := by
            cases hi' with
            | none => simp [bound] at e2; omega
            | some z => simp only [bound] at e2; obtain ⟨_, _, _, _, hle, rfl⟩ := within_spec e2; omega
          rcases hcase with ⟨k, base, c, cs, et, fr, hk, b1, b2, b3, hw, b4, rfl⟩ | ⟨rfl, rfl, ad, rfl⟩
          · obtain ⟨M, a1, a2, a3, a4, a5, hrun⟩ := run_slc ho ht hsz hv hE hG hl hh hm hmh b2 (Nat.le_refl _) e1 e2 e3
            cases mx' with
            | none =>
              simp only at he; cases he
              have hM := a1 rfl
              subst hM
              refine OpOK.pure hH hrun ?_
              by_cases hz : M = l
              · have : h - l = 0 := by omega
                rw [if_pos hz, this, show M - l = 0 by omega, show off + l = cl by omega]
                exact .ownZ R id r0 _ cl hr0 hbx hcl
              · rw [if_neg hz]
                have hs : l * esz = l * r0.sz := by rw [hsz0, Nat.eq_of_beq_eq_true hsh]
                simp only [Option.map_some, add_none, hs]
                have := Rep.own (w := w) (X := Xof H R) R id r0 k base (off + l) (h - l) cl (M - l) cs et fr hr0 hbx hcl hk (by omega) (by omega) (by omega) hw
                  (by rw [show off + l + (M - l) = off + M by omega]; exact b4)
                rwa [Nat.add_mul, ← Nat.add_assoc] at this
            | some z =>
              simp only at he
              have hMm := a2 rfl
              split at he <;> cases he
              · rename_i hb
                have hb := Nat.eq_of_beq_eq_true hb
                refine OpOK.pure hH hrun ?_
                rw [hMm, show h - l = 0 by omega, show m - l = 0 by omega]
                exact .nul R _
              · exact OpOK.pure hH hrun (.any R _)
          · obtain ⟨M, a1, a2, a3, a4, a5, hrun⟩ := run_slc ho ht hsz hv hE hG hl hh hm hmh (Nat.le_refl 0) (Nat.le_refl 0) e1 e2 e3
            have hM : M = 0 := by omega
            subst hM
            have hl0 : l = 0 := by omega
            subst hl0
            have hh0 : h = 0 := by omega
            subst hh0
            cases mx' with
            | none =>
              simp only at he; cases he
              exact OpOK.pure hH hrun (.ownZ R id r0 _ off hr0 hbx hcl)
            | some z =>
              simp only at he
              split at he <;> cases he
              · exact OpOK.pure hH hrun (.nul R _)
              · exact OpOK.pure hH hrun (.any R _)
    split at he
    · rename_i sz rows hg; exact key sz rows (.inl hg) he
    · rename_i sz rows hg; exact key sz rows (.inr hg) he
    · cases he

theorem allCell_spec : ∀ {l : List PV}, allCell l = true → ∀ p ∈ l, cellV p = true
  | [], _, p, hp => by cases hp
  | v :: r, h, p, hp => by
    simp only [allCell] at h
    split at h <;> first | (cases h; done) | skip
    rename_i hv
    cases hp with
    | head => exact hv
    | tail _ hp => exact allCell_spec h p hp

theorem ok_mkf (hH : HRel w R H) (hE : ERel w R H env a.tmps) (hG : GlobOK cx gs w (Xof H R)) {o : Oper} {f : FuncId} {caps : Array Operand} {caps' : List Opd}
    (ho : o.op = .makeFunc (.func f) #[] caps) (hx : mOpds gs caps.toList caps' = true) (hcv : allCell (opds cx env caps') = true) :
    OpOK P o a w R H ⟨.func f (opds cx env caps'), [], []⟩ := by
  obtain ⟨hl, hh⟩ := mOpds_spec hx
  obtain ⟨hl2, hr⟩ := opds_rep hE hG hl hh
  have hcap : ∀ (i : Nat) p v, (opds cx env caps')[i]? = some p → (caps.map a.eval)[i]? = some v → Rep w (Xof H R) R p v := by
    intro i p v hp hv
    refine hr i p v hp ?_
    rw [← hv, ← Array.getElem?_toList, Array.toList_map]
  refine OpOK.pure hH (v := .func (.func f) #[] (caps.map a.eval)) (by simp [execOp, ho, Instr.makeFunc]) (.func R f _ _ (by simp [hl2]) (fun i v hv => ?_) hcap)
  have hi : i < (opds cx env caps').length := by
    have := (Array.getElem?_eq_some_iff.1 hv).1
    simp at this; simp [hl2]; exact this
  refine (hcap i _ v (List.getElem?_eq_getElem hi) hv).oneCell ?_
  exact allCell_spec hcv _ (List.getElem_mem hi)

end

end Go.Ev

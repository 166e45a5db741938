/-
  Addresses, elements, slices of slices and of texts: each comes to the value that the evaluator gives.
-/
import Derived.Test.YtcnipahcheooiaaE5
namespace Go.Ev
open Go
set_option linter.unusedSectionVars false
set_option linter.unusedSimpArgs false
set_option linter.unusedVariables false
variable [Frame]

section
variable {P : Program} {cx : Cx} {gs : List Nat} {w : World} {R : Refs} {H : Heap} {env : Env} {a : Act}

theorem add_none (k o n : Nat) : (⟨k, o, none⟩ : Addr).add n = ⟨k, o + n, none⟩ := by
  unfold Addr.add
  split
  · subst_vars; rfl
  · rfl

theorem eptr_real (hH : HRel w R H) {id i j cl : Nat} (hv : validO H id cl = true) {v : Value} (h : Rep w (Xof H R) R (.eptr id i j cl) v) :
    ∃ r k base, R id = some r ∧ r.cl = cl ∧ r.box = false ∧ r.blk = some (k, base) ∧ v = .pointer (some ⟨k, base + i * r.sz + j, none⟩) := by
  cases h with
  | eptr _ _ b k base _ _ _ h hb hl hk => exact ⟨b, k, base, h, hl, hb, hk, rfl⟩
  | eptrS _ _ b _ _ _ _ h hb hl h1 => have := (hH.valid hv h).1; omega

theorem ok_nilchk (hH : HRel w R H) (hE : ERel w R H env a.tmps) (hG : GlobOK cx gs w (Xof H R)) {o : Oper} {x : Operand} {x' : Opd} {e : Eff}
    (ho : o.op = .nilCheck x) (hx : mOpd gs x x' = true) (he : evOp cx env H (.nilchk x') = some e) : OpOK P o a w R H e := by
  have rx := opd_rep hE hG hx
  simp only [evOp] at he
  generalize hp : opd cx env x' = pv at rx he
  generalize hv : a.eval x = v at rx
  cases pv <;> (try simp only at he) <;> first | (cases he; done) | skip
  · cases he
    have rx0 := rx
    cases rx
    exact OpOK.pure hH (by simp [execOp, ho, hv]) rx0
  · rename_i id i j cl
    cases hvo : validO H id cl <;> rw [hvo] at he <;> cases he
    obtain ⟨r, k, base, _, _, _, _, rfl⟩ := eptr_real hH hvo rx
    exact OpOK.pure hH (by simp [execOp, ho, hv]) rx
  · cases he
    have rx0 := rx
    cases rx
    exact OpOK.pure hH (by simp [execOp, ho, hv]) rx0
  · cases he
    have rx0 := rx
    cases rx
    exact OpOK.pure hH (by simp [execOp, ho, hv]) rx0
  · cases he
    have rx0 := rx
    cases rx
    exact OpOK.pure hH (by simp [execOp, ho, hv]) rx0

theorem rptr_drop {X : Nat → Prop} {cells : List PV} {k off : Nat} {o : Nat} (h : Rep w X R (.rptr cells) (.pointer (some ⟨k, o, none⟩))) :
    Rep w X R (.rptr (cells.drop off)) (.pointer (some ⟨k, o + off, none⟩)) := by
  cases h with
  | rptr _ _ _ _ vs hk hs hc hr =>
    refine .rptr R k (o + off) _ (fun i => vs (off + i)) hk hs (fun i pv hi => ?_) (fun i pv hi => ?_)
    · have := hc (off + i) pv (by simpa using hi)
      rwa [← Nat.add_assoc] at this
    · exact hr (off + i) pv (by simpa using hi)

theorem rptr_inv {X : Nat → Prop} {cells : List PV} {v : Value} (h : Rep w X R (.rptr cells) v) : ∃ k o, v = .pointer (some ⟨k, o, none⟩) := by
  cases h; exact ⟨_, _, rfl⟩

theorem ok_faddr (hH : HRel w R H) (hE : ERel w R H env a.tmps) (hG : GlobOK cx gs w (Xof H R)) {o : Oper} {t : TypeId} {x : Operand} {i : Nat} {fs : Array Field} {f : Field} {x' : Opd} {sz : Nat} {e : Eff}
    (ho : o.op = .fieldAddr t x i) (ht : P.underlying t = some (.struct fs)) (hf : fs[i]? = some f) (hsz : tySize P f.type = some sz) (hn : sz ≠ 0)
    (hx : mOpd gs x x' = true) (he : evOp cx env H (.faddr f.offset x') = some e) : OpOK P o a w R H e := by
  have rx := opd_rep hE hG hx
  simp only [evOp] at he
  generalize hp : opd cx env x' = pv at rx he
  generalize hv : a.eval x = v at rx
  have run : ∀ k q, v = .pointer (some ⟨k, q, none⟩) → (execOp a.eval o).run P w = .ok (.value (.pointer (some ⟨k, q + f.offset, none⟩))) w := by
    intro k q e
    subst e
    simp [execOp, ho, hv, Instr.fieldAt, underlying, ht, hf, Instr.sureAddr, fieldPlace, run_sizeOf' hsz, hn, add_none]
  cases pv <;> (try simp only at he) <;> first | (cases he; done) | skip
  · rename_i id j
    cases he
    cases rx with
    | ptr _ _ b k base _ h hb hk => exact OpOK.pure hH (run k (base + j) rfl) (by rw [Nat.add_assoc]; exact .ptr R id b k base (j + f.offset) h hb hk)
  · rename_i id i' j cl
    cases hvo : validO H id cl <;> rw [hvo] at he <;> cases he
    obtain ⟨r, k, base, h1, h2, h3, h4, rfl⟩ := eptr_real hH hvo rx
    exact OpOK.pure hH (run k _ rfl) (by rw [Nat.add_assoc]; exact .eptr R id r k base i' (j + f.offset) cl h1 h3 h2 h4)
  · rename_i cells
    cases hb : Nat.ble f.offset cells.length <;> rw [hb] at he <;> cases he
    obtain ⟨k, q, rfl⟩ := rptr_inv rx
    exact OpOK.pure hH (run k q rfl) (rptr_drop rx)

/-- A slice that is read alone, or is the call's own: an element's place. -/
theorem ok_iaddr (hH : HRel w R H) (hE : ERel w R H env a.tmps) (hG : GlobOK cx gs w (Xof H R)) {o : Oper} {t el : TypeId} {x ix : Operand} {x' ix' : Opd} {esz : Nat} {e : Eff}
    (ho : o.op = .indexAddr t x ix) (ht : P.underlying t = some (.slice el)) (hsz : tySize P el = some esz)
    (hx : mOpd gs x x' = true) (hi : mOpd gs ix ix' = true) (he : evOp cx env H (.iaddr esz x' ix') = some e) : OpOK P o a w R H e := by
  have rx := opd_rep hE hG hx
  have ri := opd_rep hE hG hi
  simp only [evOp] at he
  generalize hp : opd cx env x' = pv at rx he
  generalize hv : a.eval x = v at rx
  generalize hpi : opd cx env ix' = pi at ri he
  generalize hvi : a.eval ix = vi at ri
  have run : ∀ k q len c kk (n : Int), v = .slice (some ⟨k, q, none⟩) len c → vi = .int kk n → 0 ≤ n → n < len →
      (execOp a.eval o).run P w = .ok (.value (.pointer (some ⟨k, q + n.toNat * esz, none⟩))) w := by
    intro k q len c kk n e1 e2 h0 h1
    subst e1; subst e2
    simp [execOp, ho, hv, hvi, Instr.indexAt, asIntOf, underlying, ht, h0, h1, run_sizeOf' hsz, add_none]
  cases pv <;> (try simp only at he) <;> first | (cases he; done) | skip
  · rename_i rows
    cases pi <;> (try simp only at he) <;> first | (cases he; done) | skip
    rename_i kk n
    split at he <;> first | (cases he; done) | skip
    rename_i h0
    cases hr : rows[n.toNat]? with
    | none => rw [hr] at he; cases he
    | some row =>
      rw [hr] at he
      simp only at he
      split at he <;> cases he
      rename_i hb
      have hb := Nat.eq_of_beq_eq_true hb
      have hlt : n.toNat < rows.length := (List.getElem?_eq_some_iff.1 hr).1
      cases ri
      cases rx with
      | ro0 => simp at hlt
      | ro _ k q sz _ c vs hk hs hl hz hc hrr =>
        have hsz' : sz = esz := (hz _ _ hr).symm.trans hb
        subst hsz'
        refine OpOK.pure hH (run k q rows.length c kk n rfl rfl h0 (by omega)) ?_
        exact .rptr R k _ row (fun j => vs n.toNat j) hk hs (fun j pv hj => hc _ row j pv hr hj) (fun j pv hj => hrr _ row j pv hr hj)
  · rename_i id off len cl
    cases pi <;> (try simp only at he) <;> first | (cases he; done) | skip
    rename_i kk n
    split at he <;> first | (cases he; done) | skip
    rename_i h0
    split at he <;> first | (cases he; done) | skip
    rename_i h1
    have key : ∀ (sz : Nat) (rows : List (List PV)), (hget H id = some (.arr sz rows) ∨ hget H id = some (.froz sz rows)) →
        (match Nat.beq rows.length cl, Nat.beq sz esz with
          | true, true => some (⟨.eptr id (off + n.toNat) 0 cl, [], [id]⟩ : Eff)
          | _, _ => none) = some e → OpOK P o a w R H e := by
      intro sz rows hg he
      split at he <;> cases he
      rename_i hb hbs
      have hvo : validO H id cl = true := by
        unfold validO
        rcases hg with hg | hg <;> rw [hg] <;> exact hb
      have hB : ∃ r, R id = some r ∧ r.sz = sz := by
        rcases hg with hg | hg
        · obtain ⟨r, h1, _, _, h2, _⟩ := hH.has id _ hg; exact ⟨r, h1, h2⟩
        · obtain ⟨r, h1, _, _, h2, _⟩ := hH.has id _ hg; exact ⟨r, h1, h2⟩
      obtain ⟨r0, hr0, hsz0⟩ := hB
      obtain ⟨r, hr1, hcl, hbx, hcase⟩ := own_real hH hvo rx
      rw [hr0] at hr1; cases hr1
      rcases hcase with ⟨k, base, c, cs, et, fr, hk, e1, e2, e3, hw, e4, rfl⟩ | ⟨_, rfl, _⟩
      · have hs : r0.sz = esz := hsz0.trans (Nat.eq_of_beq_eq_true hbs)
        cases ri
        refine OpOK.pure hH (run k _ len c kk n rfl rfl h0 h1) ?_
        have := Rep.eptr (w := w) (X := Xof H R) R id r0 k base (off + n.toNat) 0 cl hr0 hbx hcl hk
        rw [hs] at this ⊢
        rwa [Nat.add_mul, ← Nat.add_assoc] at this
      · omega
    split at he
    · rename_i sz rows hg; exact key sz rows (.inl hg) he
    · rename_i sz rows hg; exact key sz rows (.inr hg) he
    · cases he

theorem ok_iaddrA (hH : HRel w R H) (hE : ERel w R H env a.tmps) (hG : GlobOK cx gs w (Xof H R)) {o : Oper} {t el : TypeId} {x ix : Operand} {x' ix' : Opd} {n esz : Nat} {e : Eff}
    (ho : o.op = .indexAddr t x ix) (ht : P.underlying t = some (.array n el)) (hsz : tySize P el = some esz)
    (hx : mOpd gs x x' = true) (hi : mOpd gs ix ix' = true) (he : evOp cx env H (.iaddrA n esz x' ix') = some e) : OpOK P o a w R H e := by
  have rx := opd_rep hE hG hx
  have ri := opd_rep hE hG hi
  simp only [evOp] at he
  generalize hp : opd cx env x' = pv at rx he
  generalize hv : a.eval x = v at rx
  generalize hpi : opd cx env ix' = pi at ri he
  generalize hvi : a.eval ix = vi at ri
  have run : ∀ k q kk (m : Int), v = .pointer (some ⟨k, q, none⟩) → vi = .int kk m → 0 ≤ m → m < n →
      (execOp a.eval o).run P w = .ok (.value (.pointer (some ⟨k, q + m.toNat * esz, none⟩))) w := by
    intro k q kk m e1 e2 h0 h1
    subst e1; subst e2
    simp [execOp, ho, hv, hvi, Instr.indexAt, asIntOf, underlying, ht, h0, h1, run_sizeOf' hsz, add_none, Instr.sureAddr]
  cases pv <;> (try simp only at he) <;> first | (cases he; done) | skip
  · rename_i id j
    cases pi <;> (try simp only at he) <;> first | (cases he; done) | skip
    split at he <;> first | (cases he; done) | skip
    rename_i h0
    split at he <;> cases he
    rename_i h1
    cases ri
    cases rx with
    | ptr _ _ b k base _ h hb hk => exact OpOK.pure hH (run k (base + j) _ _ rfl rfl h0 h1) (by rw [Nat.add_assoc]; exact .ptr R id b k base _ h hb hk)
  · rename_i id i' j cl
    cases pi <;> (try simp only at he) <;> first | (cases he; done) | skip
    split at he <;> first | (cases he; done) | skip
    rename_i h0
    split at he <;> first | (cases he; done) | skip
    rename_i h1
    cases hvo : validO H id cl <;> rw [hvo] at he <;> cases he
    obtain ⟨r, k, base, e1, e2, e3, e4, rfl⟩ := eptr_real hH hvo rx
    cases ri
    exact OpOK.pure hH (run k _ _ _ rfl rfl h0 h1) (by rw [Nat.add_assoc]; exact .eptr R id r k base i' _ cl e1 e3 e2 e4)
  · rename_i cells
    cases pi <;> (try simp only at he) <;> first | (cases he; done) | skip
    split at he <;> first | (cases he; done) | skip
    rename_i h0
    split at he <;> first | (cases he; done) | skip
    rename_i h1
    split at he <;> cases he
    obtain ⟨k, q, rfl⟩ := rptr_inv rx
    cases ri
    exact OpOK.pure hH (run k q _ _ rfl rfl h0 h1) (rptr_drop rx)

theorem ok_idxS (hH : HRel w R H) (hE : ERel w R H env a.tmps) (hG : GlobOK cx gs w (Xof H R)) {o : Oper} {t : TypeId} {x ix : Operand} {x' ix' : Opd} {e : Eff}
    (ho : o.op = .index t x ix) (ht : P.underlying t = some .string)
    (hx : mOpd gs x x' = true) (hi : mOpd gs ix ix' = true) (he : evOp cx env H (.idxS x' ix') = some e) : OpOK P o a w R H e := by
  have rx := opd_rep hE hG hx
  have ri := opd_rep hE hG hi
  simp only [evOp] at he
  generalize hp : opd cx env x' = pv at rx he
  generalize hv : a.eval x = v at rx
  generalize hpi : opd cx env ix' = pi at ri he
  generalize hvi : a.eval ix = vi at ri
  cases pv <;> (try simp only at he) <;> first | (cases he; done) | skip
  cases pi <;> (try simp only at he) <;> first | (cases he; done) | skip
  rename_i s kk n
  split at he <;> first | (cases he; done) | skip
  rename_i h0
  cases hb : s[n.toNat]? with
  | none => rw [hb] at he; cases he
  | some b =>
    rw [hb] at he; cases he
    cases rx; cases ri
    have hlt : n.toNat < s.length := (List.getElem?_eq_some_iff.1 hb).1
    have hget : (⟨s.toArray⟩ : ByteArray)[n.toNat]? = some b := by
      rw [ByteArray.getElem?_lt' _ _ (by simpa [ByteArray.size] using hlt)]
      have := (List.getElem?_eq_some_iff.1 hb).2
      simp [← this]
      rfl
    exact OpOK.pure hH (v := .int .u8 b.toNat) (by simp [execOp, ho, hv, hvi, Instr.index, asIntOf, underlying, ht, h0, hget]) (.int R _ _)

end

end Go.Ev

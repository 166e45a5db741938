/-
  The call of a function of the program's own.
-/
import Derived.Test.YtcnipahcheooiaaE20
namespace Go.Ev
open Go
set_option linter.unusedSectionVars false
set_option linter.unusedSimpArgs false
set_option linter.unusedVariables false
variable [Frame]

section
variable {w : World}

theorem flat1_rep {Z Z' : Nat → Prop} {p : PV} {v : Value} (hf : flat1 p = true) (h : Rep w Z noRefs p v) : Rep w Z' noRefs p v := by
  cases h with
  | any _ v => exact .any _ v
  | undef => exact .undef _
  | bool _ b => exact .bool _ b
  | int _ k n => exact .int _ k n
  | str _ s => exact .str _ s
  | nilp => exact .nilp _
  | nilf => exact .nilf _
  | nili => exact .nili _
  | nul _ ad => exact .nul _ ad
  | ro0 _ ad c => exact .ro0 _ ad c
  | ro _ k o sz rows c vs hk hs hl hz hc hr =>
    cases rows with
    | nil => exact .ro0 _ _ _
    | cons r rs => cases hf
  | rptr => cases hf
  | ptr => cases hf
  | eptr => cases hf
  | eptrS => cases hf
  | own => cases hf
  | ownZ => cases hf
  | ownS => cases hf
  | func => cases hf
  | iface => cases hf
  | agg => cases hf
  | tuple => cases hf

theorem flatL_get : ∀ {l : List PV}, flatL l = true → ∀ (i : Nat) p, l[i]? = some p → flat1 p = true
  | [], _, i, p, h => by simp at h
  | q :: r, h, i, p, hp => by
    simp only [flatL] at h
    split at h <;> first | (cases h; done) | skip
    rename_i hq
    cases i with
    | zero => simp at hp; subst hp; exact hq
    | succ i => simp at hp; exact flatL_get h i p hp

theorem flat2_cell {Z Z' : Nat → Prop} {p : PV} {v : Value} {ks : List Nat} (hf : flat2 p = true) (h : CellR w Z p v ks) : CellR w Z' p v ks := by
  cases h with
  | plain _ _ hn hr =>
    refine .plain _ _ hn ?_
    cases p <;> first | exact flat1_rep hf hr | skip
    rename_i cs
    cases hr with
    | agg _ _ arr hl h1 h => exact .agg _ _ arr hl h1 fun i pv u hp hu => flat1_rep (flatL_get hf i pv hp) (h i pv u hp hu)
  | fresh sz rows _ _ h =>
    refine .fresh _ _ _ _ ?_
    cases rows with
    | cons => cases hf
    | nil =>
      cases h with
      | none ad h => exact .none ad h
      | some k base c cs et hw hc hs hr => exact .some k base c cs et hw hc hs ⟨fun i row hi => by simp at hi, fun i row j pv hi => by simp at hi⟩

theorem flat2L_list {Z Z' : Nat → Prop} : ∀ {ps : List PV} {vs : List Value} {ks : List Nat}, flat2L ps = true → ListR w Z ps vs ks → ListR w Z' ps vs ks
  | [], _, _, _, h => by cases h; exact .nil
  | p :: ps, _, _, hf, h => by
    simp only [flat2L] at hf
    split at hf <;> first | (cases hf; done) | skip
    rename_i hp
    cases h with
    | cons _ v k1 _ vs k2 h hr => exact .cons p v k1 ps vs k2 (flat2_cell hp h) (flat2L_list hf hr)

theorem flatv_ret {Z Z' : Nat → Prop} {p : PV} {v : Value} {ks : List Nat} (hf : flatv p = true) (h : RetR w Z p v ks) : RetR w Z' p v ks := by
  cases h with
  | one _ _ _ hn h =>
    refine .one _ _ _ hn (flat2_cell ?_ h)
    cases p <;> first | exact hf | exact absurd rfl (hn _)
  | tuple ps arr _ h => exact .tuple ps arr _ (flat2L_list hf h)

end

section
variable {P : Program} {w w' : World} {R : Refs} {H : Heap}

theorem adoptR_rep (hints : List (Nat × Nat)) {Z : Nat → Prop} {r : PV} {v : Value} {ks : List Nat} (h : RetR w Z r v ks) (hks : ks.Nodup) (hn : (keys (adoptR hints r).2).Nodup) (R : Refs)
    (hR : ∀ id ∈ keys (adoptR hints r).2, R id = none) : ∃ R' ks1, Came w Z (adoptR hints r).2 R R' ks ks1 ∧
      ∀ X : Nat → Prop, (∀ k, X k → k < w.heap.size → Z k) → (∀ k ∈ ks, k ∉ ks1 → ¬ X k) → Rep w X R' (adoptR hints r).1 v := by
  cases h with
  | one _ _ _ hnt h =>
    have e : adoptR hints r = adopt hints 0 r := by cases r <;> first | rfl | exact absurd rfl (hnt _)
    have hl : ListR w Z [r] [v] (ks ++ []) := .cons r v ks [] [] [] h .nil
    rw [List.append_nil] at hl
    have e2 : (adoptL hints 0 [r]).2 = (adopt hints 0 r).2 := by simp [adoptL]
    rw [e] at hn hR ⊢
    obtain ⟨R', ks1, c1, _, c3⟩ := adoptL_rep hints 0 R hl hks (by rw [e2]; exact hn) (by rw [e2]; exact hR)
    rw [e2] at c1
    exact ⟨R', ks1, c1, fun X h1 h2 => c3 X h1 h2 0 _ v (by simp [adoptL]) rfl⟩
  | tuple ps arr _ h =>
    obtain ⟨R', ks1, c1, c2, c3⟩ := adoptL_rep hints 0 R h hks hn hR
    refine ⟨R', ks1, c1, fun X h1 h2 => .tuple _ _ arr (by simpa using c2.symm) fun i pv u hp hu => c3 X h1 h2 i pv u hp (by simpa using hu)⟩

theorem back_ok (hH : HRel w R H) {A : Args} {hints : List (Nat × Nat)} {base : Nat} {r : PV} {e : Eff} {ks ks' : List Nat} {Z : Nat → Prop} {v : Value} (hlent : A.lent = []) (hb : back H A hints base r [] = some e)
    (hK : KsOf R A.gone ks) (hgone : ∀ i ∈ A.gone, ∃ sz rows, hget H i = some (.arr sz rows)) (hG : Grow w (fun k => k ∈ ks) w') (hZ : ∀ k, Zof H R A.seen k → k ∉ ks → Z k)
    (hks : ∀ k ∈ ks', Z k ∧ (k ∈ ks ∨ w.heap.size ≤ k)) (hlt : ∀ k, Z k → k < w'.heap.size) (hnd : ks'.Nodup) (hret : RetR w' Z r v ks') : ∃ R', Post w R H e v w' R' := by
  unfold back at hb
  split at hb <;> first | (cases hb; done) | skip
  rename_i c1 c2 c3 c4 c5
  rw [hlent] at c5 c3
  split at hb <;> first | (cases hb; done) | skip
  rename_i fr hfr
  simp only [hlent, takeL, List.filter_nil, List.append_nil] at hb
  split at hb <;> cases hb
  rename_i hnew
  have hall := hasAll_spec c5
  have hseen : ∀ i ∈ A.seen, ∃ b, hget H i = some b ∧ deadB b = false := fun i hi => hall i (by simp [hi])
  obtain ⟨n1, n2⟩ := newIds_spec hnew
  have ks_id : ∀ id b r k o, hget H id = some b → deadB b = false → id ∉ A.gone → R id = some r → r.blk = some (k, o) → k ∉ ks := fun id b r k o h1 h2 h3 h4 h5 hk => by
    obtain ⟨i, hi, r', o', q1, q2⟩ := hK.mem k hk
    obtain ⟨sz, rows, q3⟩ := hgone i hi
    have := hH.inj id i b _ r r' k o o' h1 q3 h2 rfl h4 q1 h5 q2
    subst this; exact h3 hi
  have ks_F : ∀ k ∈ ks, ¬ Frame.F k := fun k hk => by
    obtain ⟨i, hi, r, o, h1, h2⟩ := hK.mem k hk
    obtain ⟨sz, rows, h3⟩ := hgone i hi
    exact hH.off i _ r k o h3 rfl h1 h2
  have shown_F : ∀ k, ShownK R A.seen k → ¬ Frame.F k := by
    rintro k ⟨i, hi, r, o, h1, h2⟩
    obtain ⟨b, h3, h4⟩ := hseen i hi
    exact hH.off i b r k o h3 h4 h1 h2
  have hF : ∀ k, Frame.F k → Z k := fun k hk => hZ k ⟨.inl hk, fun h => shown_F k h hk⟩ fun h => ks_F k h hk
  have hRn : ∀ id ∈ keys (adoptR hints r).2, R id = none := fun id hid => hH.dom id (n1 id hid).1
  have flatcase : flatv r = true → fr = [] → ∃ R', Post w R H ⟨(adoptR hints r).1, deads A.gone ++ fr ++ (adoptR hints r).2, A.gone ++ A.seen⟩ v w' R' := by
    rintro hfl rfl
    let Z2 : Nat → Prop := fun k => Z k ∨ ShownK R A.seen k
    obtain ⟨R', ks1, d1, d2⟩ := adoptR_rep hints (flatv_ret (Z' := Z2) hfl hret) hnd n2 R hRn
    refine ⟨R', back_core hH hK hgone hG (fun p hp => (by cases hp)) (fun j hj => (n1 j hj).1) d1 (fun k hk => ⟨.inl (hks k hk).1, (hks k hk).2⟩) ?_ (fun k hk => .inl (hF k hk)) ?_ d2⟩
    · rintro k (hk | ⟨i, hi, q, o, q1, q2⟩)
      · exact hlt k hk
      · obtain ⟨b, h3, h4⟩ := hseen i hi
        exact Nat.lt_of_lt_of_le (hH.lt h3 h4 q1 q2) hG.size
    · intro id b q k o h1 h2 h3 _ h5 h6
      by_cases hs : ShownK R A.seen k
      · exact .inr hs
      · exact .inl (hZ k ⟨.inr ⟨id, b, q, o, h1, h2, h5, h6⟩, hs⟩ (ks_id id b q k o h1 (live_dead h2) h3 h5 h6))
  unfold frz at hfr
  split at hfr
  · rename_i hfl _
    cases hfr
    obtain ⟨R', hp⟩ := flatcase hfl rfl
    exact ⟨R', by simpa using hp⟩
  · obtain ⟨R', ks1, d1, d2⟩ := adoptR_rep hints hret hnd n2 R hRn
    refine ⟨R', back_core hH hK hgone hG (fun p hp => ?_) (fun j hj => (n1 j hj).1) d1 hks hlt hF ?_ d2⟩
    · exact ⟨fun hg => apartN_spec c1 p.1 hg (frees_in hfr p hp), frees_keys hfr p hp⟩
    · intro id b q k o h1 h2 h3 h4 h5 h6
      refine hZ k ⟨.inr ⟨id, b, q, o, h1, h2, h5, h6⟩, ?_⟩ (ks_id id b q k o h1 (live_dead h2) h3 h5 h6)
      rintro ⟨i, hi, q', o', q1, q2⟩
      obtain ⟨b', h7, h8⟩ := hseen i hi
      have := hH.inj id i b b' q q' k o o' h1 h7 (live_dead h2) h8 h5 q1 h6 q2
      subst this
      obtain ⟨sz, rows, h9 | h9⟩ := frees_all hfr id hi
      · exact h4 _ h9.2 rfl
      · rw [h1] at h9; cases h9; cases h2

theorem run_callFunc {f : FuncId} (h : ownFn P f = true) (args : Array Value) (w : World) : (callFunc f args).run P w = .ok (.enter f args) w := by
  unfold ownFn at h
  split at h <;> first | (cases h; done) | skip
  rename_i fn hf
  simp only [Bool.and_eq_true, Bool.not_eq_true'] at h
  obtain ⟨h1, h2⟩ := h
  have h3 : fn.body.isNone = false := by cases hb : fn.body <;> simp_all
  have h4 : ¬ fn.name = "runtime.NumGoroutine" := by simpa using h2
  have h5 : fn.body ≠ none := by intro e; rw [e] at h3; cases h3
  simp [callFunc, hf, h4, h5]

variable {cx : Cx} {gs : List Nat} {env : Env} {a : Act}

def mArgs (gs : List Nat) : List Operand → List (Mode × Opd) → Bool
  | [], [] => true
  | x :: r, (_, y) :: s => mOpd gs x y && mArgs gs r s
  | _, _ => false

theorem mArgs_get : ∀ {xs : List Operand} {as : List (Mode × Opd)}, mArgs gs xs as = true → xs.length = as.length ∧ ∀ (i : Nat) (x : Operand) (m : Mode) (y : Opd), xs[i]? = some x → as[i]? = some (m, y) → mOpd gs x y = true
  | [], [], _ => ⟨rfl, fun i x m y h => by simp at h⟩
  | [], _ :: _, h => by simp [mArgs] at h
  | _ :: _, [], h => by simp [mArgs] at h
  | x :: xs, (m, y) :: as, h => by
    simp only [mArgs, Bool.and_eq_true] at h
    obtain ⟨h1, h2⟩ := mArgs_get h.2
    refine ⟨by simp [h1], fun i x' m' y' hx hy => ?_⟩
    cases i with
    | zero => simp at hx hy; obtain ⟨rfl, rfl⟩ := hy; subst hx; exact h.1
    | succ i => simp at hx hy; exact h2 i x' m' y' hx hy

theorem ListR.append {Z : Nat → Prop} {ps qs : List PV} {vs us : List Value} {k1 k2 : List Nat} (h : ListR w Z ps vs k1) (h' : ListR w Z qs us k2) : ListR w Z (ps ++ qs) (vs ++ us) (k1 ++ k2) := by
  induction h with
  | nil => exact h'
  | cons p v k1 ps vs k2' h hr ih => rw [List.append_assoc]; exact .cons p v k1 _ _ _ h ih

/-- A call, once what it enters is known. -/
theorem enter_ok (hH : HRel w R H) (hG : GlobOK cx gs w (Xof H R)) {o : Oper} {f : FuncId} {A : Args} {hints : List (Nat × Nat)} {base : Nat} {r : PV} {vs : Array Value} {e : Eff} {ks : List Nat} {args : List PV}
    (hlent : A.lent = []) (hb : back H A hints base r [] = some e) (hr : cx.call f args = some (r, [])) (hf : FnOK P cx.glob gs cx.call f) (hrun : (execOp a.eval o).run P w = .ok (.enter f vs) w)
    (hL : ListR w (Zof H R A.seen) args vs.toList ks) (hK : KsOf R A.gone ks) (hgone : ∀ i ∈ A.gone, ∃ sz rows, hget H i = some (.arr sz rows)) : OpOK P o a w R H e := by
  intro next Q hn
  rw [hrun]
  rw [Oper.upon_enter]
  have hb' := hb
  unfold back at hb'
  split at hb' <;> first | (cases hb'; done) | skip
  rename_i c1 c2 c3 c4 c5
  rw [hlent, List.append_nil] at c5 c3
  have hall := hasAll_spec c5
  have hkn : ks.Nodup := hK.nodup hH (nodupN_spec c3) fun i hi => hall i (List.mem_append_left _ hi)
  have hkz : ∀ k ∈ ks, Zof H R A.seen k := fun k hk => by
    obtain ⟨i, hi, q, o', h1, h2⟩ := hK.mem k hk
    obtain ⟨sz, rows, h3⟩ := hgone i hi
    refine ⟨.inr ⟨i, _, q, o', h3, rfl, h1, h2⟩, ?_⟩
    rintro ⟨j, hj, q', o2, h4, h5⟩
    obtain ⟨b, h6, h7⟩ := hall j (List.mem_append_right _ hj)
    have := hH.inj i j _ b q q' k o' o2 h3 h6 rfl h7 h1 h4 h2 h5
    subst this
    exact apartN_spec c1 i hi hj
  have := (hf args r hr).2 (Zof H R A.seen) w vs ks (fun k hk => hH.X_lt hk.1) hkz hkn (fun g hg => (hG g hg).mono (Grow.refl w _) (fun k _ hn hz => hn hz.1) (RExt.no _)) hL
  refine this.mono ?_
  rintro e' w' ⟨v, rfl, g1, Z', ks', z1, z2, z3, z4, z5⟩
  obtain ⟨R', hp⟩ := back_ok hH hlent hb hK hgone g1 z1 z2 z3 z4 z5
  exact hn v w' R' hp

theorem ios_nil {A : Args} {hints : List (Nat × Nat)} {base : Nat} {r : PV} {ios : List (List PV)} {e : Eff} (hl : A.lent = []) (h : back H A hints base r ios = some e) : ios = [] := by
  unfold back at h
  split at h <;> first | (cases h; done) | skip
  rename_i c1 c2 c3 c4 c5
  rw [hl] at c4
  cases ios with
  | nil => rfl
  | cons => cases c4

theorem ok_call (hH : HRel w R H) (hE : ERel w R H env a.tmps) (hG : GlobOK cx gs w (Xof H R)) {o : Oper} {c : Call} {f : FuncId} {as : List (Mode × Opd)} {hints : List (Nat × Nat)} {base : Nat} {e : Eff}
    (ho : o.op = .call c) (hc : c.callee = .value (.func f)) (hok : FnOK P cx.glob gs cx.call f) (hm : plainModes as = true) (ha : mArgs gs c.args.toList as = true)
    (he : evOp cx env H (.call f as hints base) = some e) : OpOK P o a w R H e := by
  simp only [evOp] at he
  split at he <;> first | (cases he; done) | skip
  rename_i A hA
  unfold evCall at he
  split at he <;> first | (cases he; done) | skip
  rename_i r ios hr
  obtain ⟨m1, m2⟩ := mArgs_get ha
  obtain ⟨hl, ks, hL, hK, hg⟩ := args_rep hH (vs := (c.args.map a.eval).toList) (seen := A.seen) hm hA (fun _ h => h) (by simp at m1 ⊢; exact m1.symm) (fun i m x v hx hv => by
    simp only [Array.toList_map, List.getElem?_map, Option.map_eq_some_iff] at hv
    obtain ⟨y, hy, rfl⟩ := hv
    exact opd_rep hE hG (m2 i y m x hy hx))
  have hi := ios_nil hl he
  subst hi
  refine enter_ok hH hG hl he hr hok (vs := c.args.map a.eval) ?_ (by simpa using hL) hK hg
  have : (callFunc f (c.args.map a.eval)).run P w = _ := run_callFunc (hok _ _ hr).1 _ w
  simp [execOp, ho, resolve, hc, Deferred.ofValue, invoke, Act.eval, this]

theorem Rep.plain {X : Nat → Prop} {p : PV} {v : Value} (h : Rep w X R p v) : isBorder p = false := by cases h <;> rfl

theorem caps_list {Z : Nat → Prop} : ∀ {ps : List PV} {vs : List Value}, ps.length = vs.length → (∀ (i : Nat) p v, ps[i]? = some p → vs[i]? = some v → Rep w Z noRefs p v) → ListR w Z ps vs []
  | [], [], _, _ => .nil
  | [], _ :: _, h, _ => by simp at h
  | _ :: _, [], h, _ => by simp at h
  | p :: ps, v :: vs, h, hr => by
    have h0 := hr 0 p v rfl rfl
    exact .cons p v [] ps vs [] (.plain _ _ h0.plain h0) (caps_list (by simpa using h) fun i q u hq hu => hr (i + 1) q u (by simpa using hq) (by simpa using hu))

/-- The call of a function value. -/
theorem ok_callv (hH : HRel w R H) (hE : ERel w R H env a.tmps) (hG : GlobOK cx gs w (Xof H R)) {o : Oper} {c : Call} {fx : Operand} {fx' : Opd} {as : List (Mode × Opd)} {hints : List (Nat × Nat)} {base : Nat} {e : Eff}
    (ho : o.op = .call c) (hc : c.callee = .value fx) (hfx : mOpd gs fx fx' = true) (hcall : ∀ f, FnOK P cx.glob gs cx.call f) (hm : plainModes as = true) (ha : mArgs gs c.args.toList as = true)
    (he : evOp cx env H (.callv fx' as hints base) = some e) : OpOK P o a w R H e := by
  simp only [evOp] at he
  split at he <;> first | (cases he; done) | skip
  rename_i f cs x A hcl hA
  unfold evCall at he
  split at he <;> first | (cases he; done) | skip
  rename_i r ios hr
  rw [List.nil_append] at hr
  obtain ⟨m1, m2⟩ := mArgs_get ha
  obtain ⟨hl, ks, hL, hK, hg⟩ := args_rep hH (vs := (c.args.map a.eval).toList) (seen := x ++ A.seen) hm hA (fun _ h => List.mem_append_right _ h) (by simp at m1 ⊢; exact m1.symm) (fun i m x v hx hv => by
    simp only [Array.toList_map, List.getElem?_map, Option.map_eq_some_iff] at hv
    obtain ⟨y, hy, rfl⟩ := hv
    exact opd_rep hE hG (m2 i y m x hy hx))
  have hi := ios_nil (A := { A with seen := x ++ A.seen }) hl he
  subst hi
  have hv := clo2_rep hH hcl ((shown_Z (x ++ A.seen)).mono fun i hi => List.mem_append_left _ hi) (opd_rep hE hG hfx)
  generalize hu : a.eval fx = u at hv
  cases hv with
  | func _ _ _ arr hl2 h1 h2 =>
    have hC : ListR w (Zof H R (x ++ A.seen)) cs arr.toList [] := caps_list (by simp [hl2]) fun i p v hp hv => h2 i p v hp (by simpa using hv)
    have hLL := hL.append hC
    rw [List.append_nil] at hLL
    refine enter_ok hH hG (A := { A with seen := x ++ A.seen }) hl he hr (hcall f) (vs := c.args.map a.eval ++ arr) ?_ (by simpa using hLL) hK hg
    have := run_callFunc (hcall f _ _ hr).1 (c.args.map a.eval ++ arr) w
    simp [execOp, ho, resolve, hc, hu, Deferred.ofValue, invoke, this]

end

end Go.Ev

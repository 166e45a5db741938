/-
  'stratigraphlaw19.DirectorTicks' answers true, and leaves the input as it was, wherever what it reads is of bulk at most 1048576. The tables of package unicode/utf8 are as the program's text lays them (the card ties them).
-/
import Derived.Test.YtefoleocbhkobaaGreatDoorN2x5
import Derived.Test.YtefoleocbhkobaaGreatDoorCards
import Derived.Test.YtefoleocbhkobaaGreatDoorTie
import Derived.Carry
import Derived.ProofKit
import Derived.LaidMore
import Derived.Lay
namespace Go.Proofs.YtefoleocbhkobaaGreatDoor
open Go Go.Ev
set_option linter.unusedSectionVars false
set_option linter.unusedSimpArgs false
set_option linter.unusedVariables false
abbrev sI : Sh := .int .i64
def shSt : List Sh := [sI, sI, sI]
def shPl : List Sh := [.str, .str, sI, sI, sI]
def shInf : List Sh := [sI, .slice [sI], .bool]
def shLe : List Sh := [sI, sI, sI, sI, sI]
def shRw : List Sh := [sI, sI, sI, sI, sI, sI, sI]
def shDr : List Sh := [.slice shPl, .slice shInf, sI, .slice shLe, .slice shSt, sI, sI, sI, sI, sI, sI, sI, sI, sI, sI, sI, .str, .slice [.str], sI, sI, sI, .str, .str, .slice [sI], sI, sI, sI, .slice [sI], .slice shRw]
theorem _root_.Go.Ev.Fit.i {k : IntKind} {p : PV} (h : Fit (.int k) p) : ∃ n, p = .int k n := by cases h; exact ⟨_, rfl⟩
theorem _root_.Go.Ev.Fit.b {p : PV} (h : Fit .bool p) : ∃ b, p = .bool b := by cases h; exact ⟨_, rfl⟩
theorem _root_.Go.Ev.Fit.s {p : PV} (h : Fit .str p) : ∃ s, p = .str s := by cases h; exact ⟨_, rfl⟩
theorem int_of (r : List PV) (h : FitL [sI] r) : ∃ n : Int, r = rowI n := by
  obtain ⟨p, q, rfl, h1, h2⟩ := h.cons
  obtain ⟨n, rfl⟩ := h1.i
  have := h2.done
  subst this
  exact ⟨n, rfl⟩
theorem text_of (r : List PV) (h : FitL [.str] r) : ∃ s : List UInt8, r = [.str s] := by
  obtain ⟨p, q, rfl, h1, h2⟩ := h.cons
  obtain ⟨n, rfl⟩ := h1.s
  have := h2.done
  subst this
  exact ⟨n, rfl⟩
theorem st_of (r : List PV) (h : FitL shSt r) : ∃ s : St, r = s.cells := by
  obtain ⟨_, _, rfl, g1, h1_⟩ := h.cons; obtain ⟨a, rfl⟩ := g1.i
  obtain ⟨_, _, rfl, g2, h2_⟩ := h1_.cons; obtain ⟨b, rfl⟩ := g2.i
  obtain ⟨_, _, rfl, g3, h3_⟩ := h2_.cons; obtain ⟨c, rfl⟩ := g3.i
  have := h3_.done; subst this
  exact ⟨⟨a, b, c⟩, rfl⟩
theorem pl_of (r : List PV) (h : FitL shPl r) : ∃ s : Pl, r = s.cells := by
  obtain ⟨_, _, rfl, g1, h1_⟩ := h.cons; obtain ⟨a, rfl⟩ := g1.s
  obtain ⟨_, _, rfl, g2, h2_⟩ := h1_.cons; obtain ⟨b, rfl⟩ := g2.s
  obtain ⟨_, _, rfl, g3, h3_⟩ := h2_.cons; obtain ⟨c, rfl⟩ := g3.i
  obtain ⟨_, _, rfl, g4, h4_⟩ := h3_.cons; obtain ⟨d, rfl⟩ := g4.i
  obtain ⟨_, _, rfl, g5, h5_⟩ := h4_.cons; obtain ⟨e, rfl⟩ := g5.i
  have := h5_.done; subst this
  exact ⟨⟨a, b, c, d, e⟩, rfl⟩
theorem inf_of (r : List PV) (h : FitL shInf r) : ∃ s : Inf, r = infRow s := by
  obtain ⟨_, _, rfl, g1, h1_⟩ := h.cons; obtain ⟨a, rfl⟩ := g1.i
  obtain ⟨_, _, rfl, g2, h2_⟩ := h1_.cons; obtain ⟨b, rfl⟩ := g2.rowsOf rowI int_of
  obtain ⟨_, _, rfl, g3, h3_⟩ := h2_.cons; obtain ⟨c, rfl⟩ := g3.b
  have := h3_.done; subst this
  exact ⟨⟨a, b, c⟩, rfl⟩
theorem le_of (r : List PV) (h : FitL shLe r) : ∃ s : Le, r = s.cells := by
  obtain ⟨_, _, rfl, g1, h1_⟩ := h.cons; obtain ⟨a, rfl⟩ := g1.i
  obtain ⟨_, _, rfl, g2, h2_⟩ := h1_.cons; obtain ⟨b, rfl⟩ := g2.i
  obtain ⟨_, _, rfl, g3, h3_⟩ := h2_.cons; obtain ⟨c, rfl⟩ := g3.i
  obtain ⟨_, _, rfl, g4, h4_⟩ := h3_.cons; obtain ⟨d, rfl⟩ := g4.i
  obtain ⟨_, _, rfl, g5, h5_⟩ := h4_.cons; obtain ⟨e, rfl⟩ := g5.i
  have := h5_.done; subst this
  exact ⟨⟨a, b, ⟨c, d, e⟩⟩, rfl⟩
theorem rw_of (r : List PV) (h : FitL shRw r) : ∃ s : Rw, r = s.cells := by
  obtain ⟨_, _, rfl, g1, h1_⟩ := h.cons; obtain ⟨a, rfl⟩ := g1.i
  obtain ⟨_, _, rfl, g2, h2_⟩ := h1_.cons; obtain ⟨b, rfl⟩ := g2.i
  obtain ⟨_, _, rfl, g3, h3_⟩ := h2_.cons; obtain ⟨c, rfl⟩ := g3.i
  obtain ⟨_, _, rfl, g4, h4_⟩ := h3_.cons; obtain ⟨d, rfl⟩ := g4.i
  obtain ⟨_, _, rfl, g5, h5_⟩ := h4_.cons; obtain ⟨e, rfl⟩ := g5.i
  obtain ⟨_, _, rfl, g6, h6_⟩ := h5_.cons; obtain ⟨f, rfl⟩ := g6.i
  obtain ⟨_, _, rfl, g7, h7_⟩ := h6_.cons; obtain ⟨g, rfl⟩ := g7.i
  have := h7_.done; subst this
  exact ⟨⟨a, b, c, ⟨d, e, f⟩, g⟩, rfl⟩
theorem dr_of (r : List PV) (h : FitL shDr r) : ∃ d : Dr, r = d.cellsL := by
  obtain ⟨_, _, rfl, g1, h1_⟩ := h.cons; obtain ⟨places, rfl⟩ := g1.rowsOf Pl.cells pl_of
  obtain ⟨_, _, rfl, g2, h2_⟩ := h1_.cons; obtain ⟨cells, rfl⟩ := g2.rowsOf infRow inf_of
  obtain ⟨_, _, rfl, g3, h3_⟩ := h2_.cons; obtain ⟨next, rfl⟩ := g3.i
  obtain ⟨_, _, rfl, g4, h4_⟩ := h3_.cons; obtain ⟨leases, rfl⟩ := g4.rowsOf Le.cells le_of
  obtain ⟨_, _, rfl, g5, h5_⟩ := h4_.cons; obtain ⟨lows, rfl⟩ := g5.rowsOf St.cells st_of
  obtain ⟨_, _, rfl, g6, h6_⟩ := h5_.cons; obtain ⟨m1, rfl⟩ := g6.i
  obtain ⟨_, _, rfl, g7, h7_⟩ := h6_.cons; obtain ⟨m2, rfl⟩ := g7.i
  obtain ⟨_, _, rfl, g8, h8_⟩ := h7_.cons; obtain ⟨m3, rfl⟩ := g8.i
  obtain ⟨_, _, rfl, g9, h9_⟩ := h8_.cons; obtain ⟨j1, rfl⟩ := g9.i
  obtain ⟨_, _, rfl, g10, h10_⟩ := h9_.cons; obtain ⟨j2, rfl⟩ := g10.i
  obtain ⟨_, _, rfl, g11, h11_⟩ := h10_.cons; obtain ⟨j3, rfl⟩ := g11.i
  obtain ⟨_, _, rfl, g12, h12_⟩ := h11_.cons; obtain ⟨j4, rfl⟩ := g12.i
  obtain ⟨_, _, rfl, g13, h13_⟩ := h12_.cons; obtain ⟨j5, rfl⟩ := g13.i
  obtain ⟨_, _, rfl, g14, h14_⟩ := h13_.cons; obtain ⟨j6, rfl⟩ := g14.i
  obtain ⟨_, _, rfl, g15, h15_⟩ := h14_.cons; obtain ⟨j7, rfl⟩ := g15.i
  obtain ⟨_, _, rfl, g16, h16_⟩ := h15_.cons; obtain ⟨j8, rfl⟩ := g16.i
  obtain ⟨_, _, rfl, g17, h17_⟩ := h16_.cons; obtain ⟨key, rfl⟩ := g17.s
  obtain ⟨_, _, rfl, g18, h18_⟩ := h17_.cons; obtain ⟨parts, rfl⟩ := g18.rowsOf (fun s => [.str s]) text_of
  obtain ⟨_, _, rfl, g19, h19_⟩ := h18_.cons; obtain ⟨k1, rfl⟩ := g19.i
  obtain ⟨_, _, rfl, g20, h20_⟩ := h19_.cons; obtain ⟨k2, rfl⟩ := g20.i
  obtain ⟨_, _, rfl, g21, h21_⟩ := h20_.cons; obtain ⟨k3, rfl⟩ := g21.i
  obtain ⟨_, _, rfl, g22, h22_⟩ := h21_.cons; obtain ⟨lo, rfl⟩ := g22.s
  obtain ⟨_, _, rfl, g23, h23_⟩ := h22_.cons; obtain ⟨hi, rfl⟩ := g23.s
  obtain ⟨_, _, rfl, g24, h24_⟩ := h23_.cons; obtain ⟨wait, rfl⟩ := g24.rowsOf rowI int_of
  obtain ⟨_, _, rfl, g25, h25_⟩ := h24_.cons; obtain ⟨t1, rfl⟩ := g25.i
  obtain ⟨_, _, rfl, g26, h26_⟩ := h25_.cons; obtain ⟨t2, rfl⟩ := g26.i
  obtain ⟨_, _, rfl, g27, h27_⟩ := h26_.cons; obtain ⟨t3, rfl⟩ := g27.i
  obtain ⟨_, _, rfl, g28, h28_⟩ := h27_.cons; obtain ⟨members, rfl⟩ := g28.rowsOf rowI int_of
  obtain ⟨_, _, rfl, g29, h29_⟩ := h28_.cons; obtain ⟨opened, rfl⟩ := g29.rowsOf Rw.cells rw_of
  have := h29_.done; subst this
  exact ⟨⟨places, cells, next, leases, lows, ⟨m1, m2, m3⟩, ⟨j1, j2, j3, j4, j5, j6, j7, j8, key, parts, k1, k2, k3, lo, hi, wait, ⟨t1, t2, t3⟩, members⟩, opened⟩, rfl⟩
theorem dr_small {M : Nat} (d : Dr) (h : ∀ p ∈ d.cellsL, Bd M p) : d.small M ∧ d.cells.length ≤ M ∧ d.lows.length ≤ M ∧ d.job.parts.length ≤ M ∧ ∀ t ∈ d.job.parts, t.length ≤ M := by
  simp only [Dr.cellsL, Jb.cells, List.cons_append, List.nil_append, List.mem_cons, List.not_mem_nil, or_false, forall_eq_or_imp, forall_eq] at h
  obtain ⟨a1, a2, _, a4, a5, _, _, _, _, _, _, _, _, _, _, _, _, a6, _, _, _, _, _, a7, _, _, _, a8, a9⟩ := h
  refine ⟨⟨a1.rows.1, fun p hp => ?_, a4.rows.1, a7.rows.1, a8.rows.1, a9.rows.1, fun c hc => ?_⟩, a2.rows.1, a5.rows.1, a6.rows.1, fun t ht => (a6.rows.2 t ht (.str t) (by simp)).strs⟩
  · have := a1.rows.2 p hp
    exact ⟨(this (.str p.lo) (by simp [Pl.cells])).strs, (this (.str p.hi) (by simp [Pl.cells])).strs⟩
  · exact (a2.rows.2 c hc (.ro (c.members.map rowI)) (by simp [infRow])).rows.1
theorem flat_le {M : Nat} : ∀ l : List (List UInt8), (∀ t ∈ l, t.length ≤ M) → l.flatten.length ≤ l.length * M
  | [], _ => Nat.zero_le _
  | x :: r, h => by
    have h1 := flat_le r fun t ht => h t (.tail _ ht)
    have h2 := h x (.head _)
    simp only [List.flatten_cons, List.length_append, List.length_cons, Nat.add_mul]
    omega
theorem shapes36 : shapes Tryz.prog 8 36 = some shDr := by kernel_rfl
end Go.Proofs.YtefoleocbhkobaaGreatDoor
namespace Go.Proofs.YtefoleocbhkobaaGreatDoor
open Go Go.Ev Go.ChangeShapes Go.WideShapes Go.ChangeAt Go.RowKit
set_option linter.unusedSectionVars false
set_option linter.unusedSimpArgs false
set_option linter.unusedVariables false
theorem own : ownKnob Tryz.prog.godebug = none := by kernel_rfl
theorem laidOut : laidOutB Tryz.prog = true := by kernel_rfl
theorem true_any {f : FuncId} {args : List PV} (h : AnsOK Tryz.prog glob [0, 1] f args (.bool true)) (w : World) (vs : Array Value) (hg : ∀ g ∈ [0, 1], Rep w noX noRefs (.rptr (glob g)) (.pointer (some ⟨g, 0, none⟩)))
    (hv : ListR w noX args vs.toList []) : Calls Tryz.prog f vs w fun e w' => e = .returned (.bool true) ∧ Grow w noX w' := by
  refine (h noX w vs [] (fun _ h => h.elim) (fun _ h => by cases h) List.nodup_nil hg hv).mono ?_
  rintro e w' ⟨v, rfl, hG, Z', ks', _, _, _, _, hr⟩
  refine ⟨?_, ⟨hG.size, fun k hk _ => hG.same k hk (fun h => by cases h), hG.shape, hG.os, hG.tape, hG.output, hG.froz⟩⟩
  cases hr with
  | one _ _ _ _ hc => cases hc with
    | plain _ _ _ hp => cases hp; rfl
theorem below_of {w w' : World} (h : Grow w noX w') : Below w.heap.size w w' := h.below fun _ _ h => h
theorem post_below {H : Type} {enc : TypeId × Value → H} {P : Program} {f : Func} {s : ChangeSpec} {apart fresh handsOn again : Bool} {W W' : World} {args : Array Value} {v : Value} {ds gs : List (DataW H)} {before pa pv : List MemPlace}
    (hW : DataW.Whole enc P f.params.toList s.vars apart W args.toList ds gs before) (hb : Below W.heap.size W W')
    (hres : ∀ (b : Nat) (sp : Nat → Bool) (hd : Bool), DataW.TrodAll enc P W' b sp hd f.resultTypes.toList (v.resultList f.resultTypes.size) (s.fn H (ds ++ gs)).results [])
    (hargs : ∀ sp : Nat → Bool, (∀ p ∈ before, sp p.block = true) → DataW.TrodAll enc P W' 0 sp true f.params.toList args.toList (s.fn H (ds ++ gs)).args pa)
    (hvars : ∀ sp : Nat → Bool, (∀ p ∈ before, sp p.block = true) → DataW.TrodVars enc P W' sp s.vars (s.fn H (ds ++ gs)).vars pv)
    (hps : before = pa ++ pv) (hok : ∀ (j : Nat) (t : TypeId) (r : Value), f.resultTypes[j]? = some t → (v.resultList f.resultTypes.size)[j]? = some r → Value.okWide P W' .any 0 t r) :
    s.post enc P f apart fresh handsOn again W args v W' := by
  have hlt : ∀ p ∈ before, p.block < W.heap.size := fun p hp => hW.lt p hp
  refine ⟨ds, gs, before, [], pa, pv, hW, hres _ _ _, hargs _ fun p hp => by simpa using hlt p hp, hvars _ fun p hp => by simpa using hlt p hp, World.keptBut_mono (fun p hp => ⟨hp, ?_⟩) (hb.frame (· ∈ before)), fun _ => ?_⟩
  · rw [hps, List.mem_append] at hp
    exact Or.inr hp
  · obtain ⟨_, _, _, _, _, hz, hn⟩ := hW
    refine ⟨hok, _, _, ([] ++ pa) ++ pv, ⟨[] ++ pa, pv, trodAll_append (hargs _ fun _ _ => rfl) (hres _ _ _), hvars _ fun _ _ => rfl, rfl, fun b off hp => ?_, fun ha => ?_⟩, fun p hp _ => ?_⟩
    · have hm : MemPlace.cell b off ∈ before := by rw [hps]; simpa using hp
      rw [hb.frozen (p := ⟨b, off, none⟩) (hlt _ hm)]
      exact hz b off hm
    · have := hn ha
      rw [hps] at this
      simpa using this
    · rw [hps]
      simpa using hp
theorem gFirst : Tryz.prog.globalNamed "unicode/utf8.first" = some 0 := by kernel_rfl
theorem gRanges : Tryz.prog.globalNamed "unicode/utf8.acceptRanges" = some 1 := by kernel_rfl
theorem tFirst : ∃ t, (Tryz.prog.globals[0]?).map (·.type) = some t ∧ shapes Tryz.prog 8 t = some (List.replicate 256 (.int .u8)) := by
  refine ⟨_, rfl, ?_⟩
  kernel_rfl
theorem tRanges : ∃ t, (Tryz.prog.globals[1]?).map (·.type) = some t ∧ shapes Tryz.prog 8 t = some (List.replicate 32 (.int .u8)) := by
  refine ⟨_, rfl, ?_⟩
  kernel_rfl
theorem dFirst : dcells Rows.laid_unicode_utf8_first = utf8first := by kernel_rfl
theorem dRanges : dcells (Rows.laid_unicode_utf8_acceptRanges : DataW Unit) = utf8ranges := by kernel_rfl
abbrev tables : List (String × DataW Unit) := [("unicode/utf8.acceptRanges", Rows.laid_unicode_utf8_acceptRanges), ("unicode/utf8.first", Rows.laid_unicode_utf8_first)]
theorem globs {W : World} (h : laidMetH Tryz.prog tables W) : ∀ g ∈ [0, 1], Rep W noX noRefs (.rptr (glob g)) (.pointer (some ⟨g, 0, none⟩)) := by
  rw [MakeChecks.laidMetH_plain _ _ _ (by kernel_rfl)] at h
  obtain ⟨ps, ⟨g1, t1, cs1, f1, p1, q1, hg1, ht1, hv1, hd1, ⟨g0, t0, cs0, f0, p0, q0, hg0, ht0, hv0, hd0, _, _⟩, _⟩, _, _⟩ := h
  obtain rfl := Option.some.inj (gRanges.symm.trans hg1)
  obtain rfl := Option.some.inj (gFirst.symm.trans hg0)
  obtain ⟨t, e1, s1⟩ := tRanges
  obtain rfl := Option.some.inj (e1.symm.trans ht1)
  obtain ⟨t, e0, s0⟩ := tFirst
  obtain rfl := Option.some.inj (e0.symm.trans ht0)
  have r1 := var_rep gRanges s1 hv1 hd1
  have r0 := var_rep gFirst s0 hv0 hd0
  rw [dRanges] at r1
  rw [dFirst] at r0
  intro g hg
  simp only [List.mem_cons, List.not_mem_nil, or_false] at hg
  rcases hg with rfl | rfl
  · exact r0
  · exact r1
noncomputable abbrev laidWorld (os : Os) : World := World.laidAll Tryz.prog os tables
theorem laid_met (os : Os) (args : Array Value) : laidMetH Tryz.prog tables ((laidWorld os).forCall (fun _ _ => 0) ⟨#[], args, []⟩).memory := by
  rw [MakeChecks.laidMetH_plain _ _ _ (by kernel_rfl)]
  exact laidMet_laidAll _ (by kernel_rfl) (by kernel_rfl)
def vNil : Value := .slice none 0 0
def vI : Value := .int .i64 0
def vS : Value := .string ⟨#[]⟩
def zDr : Value := .agg #[vNil, vNil, vI, vNil, vNil, vI, vI, vI, vI, vI, vI, vI, vI, vI, vI, vI, vS, vNil, vI, vI, vI, vS, vS, vNil, vI, vI, vI, vNil, vNil]
def lI {H : Type} : DataW H := .lit (.int .i64 0)
def lS {H : Type} : DataW H := .lit (.string [])
def zDrD {H : Type} : DataW H := .agg [.nil, .nil, lI, .nil, .nil, .agg [lI, lI, lI], .agg [lI, lI, lI, lI, lI, lI, lI, lI, lS, .nil, lI, lI, lI, .agg [lS, lS], .nil, .agg [lI, lI, lI], .nil], .nil]
end Go.Proofs.YtefoleocbhkobaaGreatDoor
namespace Go.Proofs.YtefoleocbhkobaaGreatDoor
open Go Go.Ev
set_option linter.unusedSectionVars false
set_option linter.unusedSimpArgs false
set_option linter.unusedVariables false
def icmp (a b : Int) : Int := if a < b then -1 else if b < a then 1 else 0
def or3 (x y z : Int) : Int := if x = 0 then (if y = 0 then z else y) else x
def St.cmp (a b : St) : Int := or3 (icmp a.wall b.wall) (icmp a.tick b.tick) (icmp a.node b.node)
def St.lt (a b : St) : Bool := if a.wall = b.wall then (if a.tick = b.tick then decide (a.node < b.node) else decide (a.tick < b.tick)) else decide (a.wall < b.wall)
def St.later (a b : St) : St := if a.lt b = true then b else a
def St.sooner (a b : St) : St := if b.lt a = true then b else a
theorem icmp_neg (a b : Int) : icmp a b < 0 ↔ a < b := by
  unfold icmp; split
  · omega
  · split <;> omega
theorem icmp_pos (a b : Int) : 0 < icmp a b ↔ b < a := by
  unfold icmp; split
  · omega
  · split <;> omega
theorem icmp_zero (a b : Int) : icmp a b = 0 ↔ a = b := by
  unfold icmp; split
  · omega
  · split <;> omega
theorem cmp_neg (a b : St) : a.cmp b < 0 ↔ a.lt b = true := by
  unfold St.cmp St.lt or3
  simp only [icmp_zero]
  split
  · split
    · rw [icmp_neg]; simp
    · rw [icmp_neg]; simp
  · rw [icmp_neg]; simp
theorem cmp_pos (a b : St) : 0 < a.cmp b ↔ b.lt a = true := by
  unfold St.cmp St.lt or3
  simp only [icmp_zero]
  by_cases h1 : a.wall = b.wall
  · by_cases h2 : a.tick = b.tick
    · simp [h1, h2, icmp_pos]
    · have h2' : ¬ b.tick = a.tick := fun h => h2 h.symm
      simp [h1, h2, h2', icmp_pos]
  · have h1' : ¬ b.wall = a.wall := fun h => h1 h.symm
    simp [h1, h1', icmp_pos]
theorem nan_ok {N : Nat} (hN : 1 ≤ N) (a : Int) : run tab prim glob N 116 [.int .i64 a] = some (.bool false, []) := by
  obtain ⟨n, rfl⟩ : ∃ n, N = n + 1 := ⟨N - 1, by omega⟩
  rw [enters (fn := c116) rfl]
  simp only [c116, o116_1, o116_2, go_sem, Nat.reduceAdd, Nat.reduceMul, reduceIte, Nat.reduceLeDiff, Int.reduceLE, Int.reduceLT, Int.reduceToNat]
theorem cmpI_ok {N : Nat} (hN : 2 ≤ N) (a b : Int) : run tab prim glob N 75 [.int .i64 a, .int .i64 b] = some (.int .i64 (icmp a b), []) := by
  obtain ⟨n, rfl⟩ : ∃ n, N = n + 1 := ⟨N - 1, by omega⟩
  rw [enters (fn := c75) rfl]
  have r : ∀ x, run tab prim glob n 116 [.int .i64 x] = some (.bool false, []) := fun x => nan_ok (by omega) x
  by_cases h1_ : a < b
  · simp only [go_sem, Nat.reduceAdd, Nat.reduceMul, reduceIte, Nat.reduceLeDiff, Int.reduceLE, Int.reduceLT, Int.reduceToNat, c75, o75_1, o75_2, o75_3, o75_4, o75_5, o75_6, o75_7, o75_8, o75_9, o75_10, o75_11, o75_12, o75_13, o75_14, r, icmp, h1_, Int.not_le.2 h1_]
  · by_cases h2_ : b < a
    · simp only [go_sem, Nat.reduceAdd, Nat.reduceMul, reduceIte, Nat.reduceLeDiff, Int.reduceLE, Int.reduceLT, Int.reduceToNat, c75, o75_1, o75_2, o75_3, o75_4, o75_5, o75_6, o75_7, o75_8, o75_9, o75_10, o75_11, o75_12, o75_13, o75_14, r, icmp, h1_, Int.not_lt.1 h1_, h2_, Int.not_le.2 h2_]
    · simp only [go_sem, Nat.reduceAdd, Nat.reduceMul, reduceIte, Nat.reduceLeDiff, Int.reduceLE, Int.reduceLT, Int.reduceToNat, c75, o75_1, o75_2, o75_3, o75_4, o75_5, o75_6, o75_7, o75_8, o75_9, o75_10, o75_11, o75_12, o75_13, o75_14, r, icmp, h1_, Int.not_lt.1 h1_, h2_, Int.not_lt.1 h2_]
theorem or_ok {N : Nat} (hN : 6 ≤ N) (x y z : Int) : run tab prim glob N 74 [.ro [[.int .i64 x], [.int .i64 y], [.int .i64 z]]] = some (.int .i64 (or3 x y z), []) := by
  obtain ⟨n, rfl⟩ : ∃ n, N = n + 6 := ⟨N - 6, by omega⟩
  rw [enters (n := n + 5) (fn := c74) rfl]
  simp only [c74, o74_1, o74_2, o74_3, o74_4, go_sem, Nat.reduceAdd, Nat.reduceMul, reduceIte, Nat.reduceLeDiff, Int.reduceLE, Int.reduceLT, Int.reduceToNat]
  have w1 : IntKind.i64.wrap ((0 : Int) + 1) = 1 := by decide
  have w2 : IntKind.i64.wrap ((1 : Int) + 1) = 2 := by decide
  have w3 : IntKind.i64.wrap ((2 : Int) + 1) = 3 := by decide
  rw [iter_step]
  by_cases h1 : x = 0
  · simp only [b74_1, ob74_1_1, ob74_1_2, ob74_1_3, ob74_1_4, ob74_1_5, go_sem, Nat.reduceAdd, Nat.reduceMul, reduceIte, Nat.reduceLeDiff, Int.reduceLE, Int.reduceLT, Int.reduceToNat, mentL, ment, ment1, evGh, keepE, keepH, afterIt, h1, w1]
    rw [iter_step]
    by_cases h2 : y = 0
    · simp only [b74_1, ob74_1_1, ob74_1_2, ob74_1_3, ob74_1_4, ob74_1_5, go_sem, Nat.reduceAdd, Nat.reduceMul, reduceIte, Nat.reduceLeDiff, Int.reduceLE, Int.reduceLT, Int.reduceToNat, mentL, ment, ment1, evGh, keepE, keepH, afterIt, h2, w2]
      rw [iter_step]
      by_cases h3 : z = 0
      · simp only [b74_1, ob74_1_1, ob74_1_2, ob74_1_3, ob74_1_4, ob74_1_5, go_sem, Nat.reduceAdd, Nat.reduceMul, reduceIte, Nat.reduceLeDiff, Int.reduceLE, Int.reduceLT, Int.reduceToNat, mentL, ment, ment1, evGh, keepE, keepH, afterIt, h3, w3]
        rw [iter_step]
        simp only [b74_1, ob74_1_1, ob74_1_2, ob74_1_3, ob74_1_4, ob74_1_5, go_sem, Nat.reduceAdd, Nat.reduceMul, reduceIte, Nat.reduceLeDiff, Int.reduceLE, Int.reduceLT, Int.reduceToNat, mentL, ment, ment1, evGh, keepE, keepH, afterIt, or3]
      · simp only [b74_1, ob74_1_1, ob74_1_2, ob74_1_3, ob74_1_4, ob74_1_5, go_sem, Nat.reduceAdd, Nat.reduceMul, reduceIte, Nat.reduceLeDiff, Int.reduceLE, Int.reduceLT, Int.reduceToNat, mentL, ment, ment1, evGh, keepE, keepH, afterIt, h3, or3]
    · simp only [b74_1, ob74_1_1, ob74_1_2, ob74_1_3, ob74_1_4, ob74_1_5, go_sem, Nat.reduceAdd, Nat.reduceMul, reduceIte, Nat.reduceLeDiff, Int.reduceLE, Int.reduceLT, Int.reduceToNat, mentL, ment, ment1, evGh, keepE, keepH, afterIt, h2, or3]
  · simp only [b74_1, ob74_1_1, ob74_1_2, ob74_1_3, ob74_1_4, ob74_1_5, go_sem, Nat.reduceAdd, Nat.reduceMul, reduceIte, Nat.reduceLeDiff, Int.reduceLE, Int.reduceLT, Int.reduceToNat, mentL, ment, ment1, evGh, keepE, keepH, afterIt, h1, or3]
theorem compare_ok {N : Nat} (hN : 8 ≤ N) (a b : St) : run tab prim glob N 24 [.agg a.cells, .agg b.cells] = some (.int .i64 (a.cmp b), []) := by
  obtain ⟨n, rfl⟩ : ∃ n, N = n + 1 := ⟨N - 1, by omega⟩
  rw [enters (fn := c24) rfl]
  have r1 : ∀ x y, run tab prim glob n 75 [.int .i64 x, .int .i64 y] = some (.int .i64 (icmp x y), []) := fun x y => cmpI_ok (by omega) x y
  have r2 := fun x y z => or_ok (N := n) (by omega) x y z
  simp only [c24, o24_1, o24_2, St.cells, go_sem, Nat.reduceAdd, Nat.reduceMul, reduceIte, Nat.reduceLeDiff, Int.reduceLE, Int.reduceLT, Int.reduceToNat, r1, r2, St.cmp]
theorem soonerP_ok {N : Nat} (hN : 9 ≤ N) (a b : St) : run tab prim glob N 76 [.agg a.cells, .agg b.cells] = some (.agg (a.sooner b).cells, []) := by
  obtain ⟨n, rfl⟩ : ∃ n, N = n + 1 := ⟨N - 1, by omega⟩
  rw [enters (fn := c76) rfl]
  have r1 := compare_ok (N := n) (by omega) a b
  have hs : a.sooner b = if 0 < a.cmp b then b else a := by unfold St.sooner; simp only [cmp_pos]
  rw [hs]
  simp only [St.cells] at r1 ⊢
  by_cases h1_ : 0 < a.cmp b
  · simp only [go_sem, Nat.reduceAdd, Nat.reduceMul, reduceIte, Nat.reduceLeDiff, Int.reduceLE, Int.reduceLT, Int.reduceToNat, c76, o76_1, o76_2, o76_3, o76_4, r1, h1_, Int.not_le.2 h1_]
  · simp only [go_sem, Nat.reduceAdd, Nat.reduceMul, reduceIte, Nat.reduceLeDiff, Int.reduceLE, Int.reduceLT, Int.reduceToNat, c76, o76_1, o76_2, o76_3, o76_4, r1, h1_, Int.not_lt.1 h1_]
theorem before_ok {N : Nat} (hN : 1 ≤ N) (a b : St) : run tab prim glob N 98 [.agg a.cells, .agg b.cells] = some (.bool (a.lt b), []) := by
  obtain ⟨n, rfl⟩ : ∃ n, N = n + 1 := ⟨N - 1, by omega⟩
  rw [enters (fn := c98) rfl]
  by_cases h1_ : a.wall = b.wall
  · by_cases h2_ : a.tick = b.tick
    · simp only [go_sem, Nat.reduceAdd, Nat.reduceMul, reduceIte, Nat.reduceLeDiff, Int.reduceLE, Int.reduceLT, Int.reduceToNat, c98, o98_1, o98_2, o98_3, o98_4, o98_5, o98_6, St.cells, St.lt, h1_, h2_]
    · simp only [go_sem, Nat.reduceAdd, Nat.reduceMul, reduceIte, Nat.reduceLeDiff, Int.reduceLE, Int.reduceLT, Int.reduceToNat, c98, o98_1, o98_2, o98_3, o98_4, o98_5, o98_6, St.cells, St.lt, h1_, h2_]
  · simp only [go_sem, Nat.reduceAdd, Nat.reduceMul, reduceIte, Nat.reduceLeDiff, Int.reduceLE, Int.reduceLT, Int.reduceToNat, c98, o98_1, o98_2, o98_3, o98_4, o98_5, o98_6, St.cells, St.lt, h1_]
theorem later05_ok {N : Nat} (hN : 2 ≤ N) (a b : St) : run tab prim glob N 61 [.agg a.cells, .agg b.cells] = some (.agg (a.later b).cells, []) := by
  obtain ⟨n, rfl⟩ : ∃ n, N = n + 1 := ⟨N - 1, by omega⟩
  rw [enters (fn := c61) rfl]
  have r1 := before_ok (N := n) (by omega) a b
  unfold St.later
  simp only [St.cells] at r1 ⊢
  by_cases h1_ : a.lt b = true
  · simp only [go_sem, Nat.reduceAdd, Nat.reduceMul, reduceIte, Nat.reduceLeDiff, Int.reduceLE, Int.reduceLT, Int.reduceToNat, c61, o61_1, o61_2, o61_3, o61_4, r1, Bool.not_eq_true, Bool.false_eq_true, h1_]
  · simp only [go_sem, Nat.reduceAdd, Nat.reduceMul, reduceIte, Nat.reduceLeDiff, Int.reduceLE, Int.reduceLT, Int.reduceToNat, c61, o61_1, o61_2, o61_3, o61_4, r1, Bool.not_eq_true, Bool.false_eq_true, h1_]
theorem sooner05_ok {N : Nat} (hN : 2 ≤ N) (a b : St) : run tab prim glob N 62 [.agg a.cells, .agg b.cells] = some (.agg (a.sooner b).cells, []) := by
  obtain ⟨n, rfl⟩ : ∃ n, N = n + 1 := ⟨N - 1, by omega⟩
  rw [enters (fn := c62) rfl]
  have r1 := before_ok (N := n) (by omega) b a
  unfold St.sooner
  simp only [St.cells] at r1 ⊢
  by_cases h1_ : b.lt a = true
  · simp only [go_sem, Nat.reduceAdd, Nat.reduceMul, reduceIte, Nat.reduceLeDiff, Int.reduceLE, Int.reduceLT, Int.reduceToNat, c62, o62_1, o62_2, o62_3, o62_4, r1, Bool.not_eq_true, Bool.false_eq_true, h1_]
  · simp only [go_sem, Nat.reduceAdd, Nat.reduceMul, reduceIte, Nat.reduceLeDiff, Int.reduceLE, Int.reduceLT, Int.reduceToNat, c62, o62_1, o62_2, o62_3, o62_4, r1, Bool.not_eq_true, Bool.false_eq_true, h1_]
end Go.Proofs.YtefoleocbhkobaaGreatDoor
namespace Go.Proofs.YtefoleocbhkobaaGreatDoor
open Go Go.Ev
set_option linter.unusedSectionVars false
set_option linter.unusedSimpArgs false
set_option linter.unusedVariables false
theorem at_pre {X : Type} {l pre rest : List X} {x : X} (c : X → List PV) (h : l = pre ++ x :: rest) : (l.map c)[pre.length]? = some (c x) := by rw [h]; simp
theorem take_map {X : Type} (l : List X) (c : X → List PV) : List.take l.length (l.map c) = l.map c := List.take_of_length_le (by simp)
theorem len1 {X : Type} (l : List X) (y : X) : (l ++ [y]).length = l.length + 1 := by simp
def tickL : List Le → List Le
  | [] => []
  | x :: r => if 1 < x.left then ⟨x.id, x.left - 1, x.tm⟩ :: tickL r else tickL r
theorem tickL_len : ∀ l : List Le, (tickL l).length ≤ l.length
  | [] => Nat.le_refl _
  | x :: r => by
    have := tickL_len r
    unfold tickL; split <;> simp <;> omega
theorem left_of : ∀ (l : List Le) (last : Int), leasesFrom last l = true → ∀ x ∈ l, 1 ≤ x.left ∧ x.left ≤ 20
  | [], _, _, _, h => by cases h
  | x :: r, last, h, y, hy => by
    simp only [leasesFrom, Bool.and_eq_true, decide_eq_true_eq] at h
    rcases List.mem_cons.1 hy with rfl | hy
    · exact ⟨h.1.1.1.2, h.1.1.2⟩
    · exact left_of r _ h.2 y hy
theorem left_right {l : List Le} (h : leasesRight l = true) : ∀ x ∈ l, 1 ≤ x.left ∧ x.left ≤ 20 := by
  simp only [leasesRight, Bool.and_eq_true] at h
  exact left_of l 0 h.1
theorem loop54 {n : Nat} (l : List Le) (hl : l.length ≤ 2000000) (hr : ∀ x ∈ l, 1 ≤ x.left ∧ x.left ≤ 20) : ∀ (rest pre acc : List Le) (m : Nat) (env : Env) (H : Heap), l = pre ++ rest → acc.length ≤ pre.length → rest.length + 1 ≤ m →
    evGh (.keep [3, 9, 10, 11] [300003]) env H = some ([(3, .own 300003 0 acc.length acc.length), (9, .ro (l.map Le.cells)), (10, .int .i64 l.length), (11, .int .i64 pre.length)], [(300003, .arr 5 (acc.map Le.cells))]) →
    iter m (evCode ⟨run tab prim glob n, glob⟩ (iter n) b54_1) env H = some (.exit 0, [(12, .bool false), (3, .own 300003 0 (acc ++ tickL rest).length (acc ++ tickL rest).length), (9, .ro (l.map Le.cells)), (10, .int .i64 l.length), (11, .int .i64 l.length)],
      [(300003, .arr 5 ((acc ++ tickL rest).map Le.cells))])
  | [], pre, acc, m + 1, env, H, hp, ha, hm, hk => by
    have e0 : pre = l := by rw [hp]; simp
    subst e0
    rw [iter_step]
    generalize iter m (evCode ⟨run tab prim glob n, glob⟩ (iter n) b54_1) = g
    simp only [b54_1, ob54_1_1, ob54_1_2, ob54_1_3, ob54_1_4, ob54_1_5, ob54_1_6, hk, go_sem, Nat.reduceAdd, Nat.reduceMul, reduceIte, Nat.reduceLeDiff, Int.reduceLE, Int.reduceLT, Int.reduceToNat, Int.lt_irrefl, afterIt, tickL, List.append_nil]
  | x :: rest, pre, acc, m + 1, env, H, hp, ha, hm, hk => by
    have e0 : pre.length < l.length := by rw [hp]; simp
    have e1 : (pre.length : Int) < (l.length : Int) := by omega
    have e2 : (0 : Int) ≤ (pre.length : Int) := by omega
    have e3 := at_pre Le.cells hp
    have e4 : IntKind.i64.wrap ((pre.length : Int) + 1) = ((pre.length + 1 : Nat) : Int) := cast_add (by omega)
    obtain ⟨x1, x2⟩ := hr x (by rw [hp]; simp)
    have e5 : IntKind.i64.wrap (x.left - 1) = x.left - 1 := IntWalk.i64_in _ (by omega)
    have e6 : ¬ acc.length + 1 ≤ acc.length := by omega
    have e7 : (acc.length + 1) * 40 ≤ 140737488355328 := by omega
    have ih := fun acc => loop54 (n := n) l hl hr rest (pre ++ [x]) acc m
    rw [iter_step]
    generalize iter m (evCode ⟨run tab prim glob n, glob⟩ (iter n) b54_1) = g at ih ⊢
    by_cases h : 1 < x.left
    · have ih := ih (acc ++ [⟨x.id, x.left - 1, x.tm⟩])
      have h1 : 0 < x.left - 1 := by omega
      simp only [len1, List.map_append, List.map_cons, List.map_nil, Le.cells] at ih e3
      simp only [b54_1, ob54_1_1, ob54_1_2, ob54_1_3, ob54_1_4, ob54_1_5, ob54_1_6, hk, go_sem, Nat.reduceAdd, Nat.reduceMul, reduceIte, Nat.reduceLeDiff, Int.reduceLE, Int.reduceLT, Int.reduceToNat, e1, e2, e3, e4, e5, e6, e7, h1, List.length_map, Nat.beq_refl, afterIt, tickL, h]
      rw [ih _ _ (by rw [hp]; simp) (by omega) (by simp at hm; omega) rfl]
      simp [Le.cells, Nat.add_assoc, Nat.add_comm]
    · have ih := ih acc
      have h1 : ¬ 0 < x.left - 1 := by omega
      simp only [len1, Le.cells] at ih e3
      simp only [b54_1, ob54_1_1, ob54_1_2, ob54_1_3, ob54_1_4, ob54_1_5, ob54_1_6, hk, go_sem, Nat.reduceAdd, Nat.reduceMul, reduceIte, Nat.reduceLeDiff, Int.reduceLE, Int.reduceLT, Int.reduceToNat, e1, e2, e3, e4, e5, h1, List.length_map, Nat.beq_refl, afterIt, tickL, h]
      exact ih _ _ (by rw [hp]; simp) (by omega) (by simp at hm; omega) rfl
theorem tickP_ok {N : Nat} (l : List Le) (hl : l.length ≤ 2000000) (hr : leasesRight l = true) (hN : l.length + 8 ≤ N) : run tab prim glob N 54 [.ro (l.map Le.cells)] = some (.ro ((tickL l).map Le.cells), []) := by
  obtain ⟨n, rfl⟩ : ∃ n, N = n + 1 := ⟨N - 1, by omega⟩
  rw [enters (fn := c54) rfl]
  have r1 := leaseR_ok (N := n) l hl (by omega)
  rw [hr] at r1
  have hL := fun env H h => loop54 (n := n) l hl (left_right hr) l [] [] n env H rfl (by simp) (by omega) h
  generalize hg : iter n (evCode ⟨run tab prim glob n, glob⟩ (iter n) b54_1) = g at hL
  simp only [c54, o54_1, o54_2, o54_3, o54_4, o54_5, o54_6, go_sem, Nat.reduceAdd, Nat.reduceMul, reduceIte, Nat.reduceLeDiff, Int.reduceLE, Int.reduceLT, Int.reduceToNat, mentL, ment, ment1, evGh, keepE, keepH, r1, hg, List.length_map]
  rw [hL _ _ (by simp only [go_sem, Nat.reduceAdd, Nat.reduceMul, reduceIte, Nat.reduceLeDiff, Int.reduceLE, Int.reduceLT, Int.reduceToNat, mentL, ment, ment1, evGh, keepE, keepH])]
  simp only [go_sem, Nat.reduceAdd, Nat.reduceMul, reduceIte, Nat.reduceLeDiff, Int.reduceLE, Int.reduceLT, Int.reduceToNat, Nat.beq_refl, List.length_map, take_map]
theorem loop58 {n : Nat} (l : List Le) (hl : l.length ≤ 2000000) (hr : ∀ x ∈ l, 1 ≤ x.left ∧ x.left ≤ 20) : ∀ (rest pre acc : List Le) (m : Nat) (env : Env) (H : Heap), l = pre ++ rest → acc.length ≤ pre.length → rest.length + 1 ≤ m →
    evGh (.keep [0, 3, 4] [300003]) env H = some ([(0, .ro (l.map Le.cells)), (3, .own 300003 0 acc.length acc.length), (4, .int .i64 pre.length)], [(300003, .arr 5 (acc.map Le.cells))]) →
    Ends (iter m (evCode ⟨run tab prim glob n, glob⟩ (iter n) b58_1) env H) (fun ex e h => ex = .exit 0 ∧ getT e 3 = .own 300003 0 (acc ++ tickL rest).length (acc ++ tickL rest).length ∧ h = [(300003, .arr 5 ((acc ++ tickL rest).map Le.cells))])
  | [], pre, acc, m + 1, env, H, hp, ha, hm, hk => by
    have e0 : pre = l := by rw [hp]; simp
    subst e0
    rw [iter_step]
    generalize iter m (evCode ⟨run tab prim glob n, glob⟩ (iter n) b58_1) = g
    simp only [b58_1, ob58_1_1, ob58_1_2, ob58_1_3, ob58_1_4, hk, go_sem, Nat.reduceAdd, Nat.reduceMul, reduceIte, Nat.reduceLeDiff, Int.reduceLE, Int.reduceLT, Int.reduceToNat, Int.lt_irrefl, afterIt, tickL, List.append_nil, List.length_map]
    exact Ends.of ⟨rfl, rfl, rfl⟩
  | x :: rest, pre, acc, m + 1, env, H, hp, ha, hm, hk => by
    have e0 : pre.length < l.length := by rw [hp]; simp
    have e1 : (pre.length : Int) < (l.length : Int) := by omega
    have e2 : (0 : Int) ≤ (pre.length : Int) := by omega
    have e3 := at_pre Le.cells hp
    have e4 : IntKind.i64.wrap ((pre.length : Int) + 1) = ((pre.length + 1 : Nat) : Int) := cast_add (by omega)
    obtain ⟨x1, x2⟩ := hr x (by rw [hp]; simp)
    have e5 : IntKind.i64.wrap (x.left - 1) = x.left - 1 := IntWalk.i64_in _ (by omega)
    have e6 : ¬ acc.length + 1 ≤ acc.length := by omega
    have e7 : (acc.length + 1) * 40 ≤ 140737488355328 := by omega
    have ih := fun acc => loop58 (n := n) l hl hr rest (pre ++ [x]) acc m
    rw [iter_step]
    generalize iter m (evCode ⟨run tab prim glob n, glob⟩ (iter n) b58_1) = g at ih ⊢
    by_cases h : 1 < x.left
    · have ih := ih (acc ++ [⟨x.id, x.left - 1, x.tm⟩])
      have e9 : acc ++ tickL (x :: rest) = acc ++ [⟨x.id, x.left - 1, x.tm⟩] ++ tickL rest := by simp [tickL, h]
      rw [e9]
      simp only [len1, List.map_append, List.map_cons, List.map_nil, Le.cells] at ih e3 ⊢
      simp only [b58_1, ob58_1_1, ob58_1_2, ob58_1_3, ob58_1_4, hk, go_sem, Nat.reduceAdd, Nat.reduceMul, reduceIte, Nat.reduceLeDiff, Int.reduceLE, Int.reduceLT, Int.reduceToNat, e1, e2, e3, e4, e5, e6, e7, List.length_map, Nat.beq_refl, afterIt, tickL, h]
      exact ih _ _ (by rw [hp]; simp) (by omega) (by simp at hm; omega) rfl
    · have ih := ih acc
      simp only [len1, Le.cells] at ih e3
      simp only [b58_1, ob58_1_1, ob58_1_2, ob58_1_3, ob58_1_4, hk, go_sem, Nat.reduceAdd, Nat.reduceMul, reduceIte, Nat.reduceLeDiff, Int.reduceLE, Int.reduceLT, Int.reduceToNat, e1, e2, e3, e4, List.length_map, Nat.beq_refl, afterIt, tickL, h]
      exact ih _ _ (by rw [hp]; simp) (by omega) (by simp at hm; omega) rfl
theorem tick16_ok {N : Nat} (l : List Le) (hl : l.length ≤ 2000000) (hr : leasesRight l = true) (hN : l.length + 8 ≤ N) : run tab prim glob N 58 [.ro (l.map Le.cells)] = some (.ro ((tickL l).map Le.cells), []) := by
  obtain ⟨n, rfl⟩ : ∃ n, N = n + 1 := ⟨N - 1, by omega⟩
  rw [enters (fn := c58) rfl]
  have hL := fun env H h => loop58 (n := n) l hl (left_right hr) l [] [] n env H rfl (by simp) (by omega) h
  generalize hg : iter n (evCode ⟨run tab prim glob n, glob⟩ (iter n) b58_1) = g at hL
  simp only [c58, o58_1, o58_2, o58_3, o58_4, go_sem, Nat.reduceAdd, Nat.reduceMul, reduceIte, Nat.reduceLeDiff, Int.reduceLE, Int.reduceLT, Int.reduceToNat, mentL, ment, ment1, evGh, keepE, keepH, hg]
  generalize hE : g _ _ = o
  obtain ⟨ex, env', H', rfl, rfl, h2, rfl⟩ := Ends.at hL hE (by simp only [go_sem, Nat.reduceAdd, Nat.reduceMul, reduceIte, Nat.reduceLeDiff, Int.reduceLE, Int.reduceLT, Int.reduceToNat, mentL, ment, ment1, evGh, keepE, keepH])
  simp only [go_sem, Nat.reduceAdd, Nat.reduceMul, reduceIte, Nat.reduceLeDiff, Int.reduceLE, Int.reduceLT, Int.reduceToNat, h2, Nat.beq_refl, List.length_map, take_map]
def least (s : St) : List Le → St
  | [] => s
  | x :: r => least (s.sooner x.tm) r
def greatest (s : St) : List St → St
  | [] => s
  | x :: r => greatest (s.later x) r
theorem later_self (s : St) : s.later s = s := by unfold St.later; split <;> rfl
theorem sooner_self (s : St) : s.sooner s = s := by unfold St.sooner; split <;> rfl
theorem loop25 {n : Nat} (l : List Le) (hl : l.length ≤ 2000000) (hn : 20 ≤ n) (z : St) : ∀ (rest pre : List Le) (s : St) (m : Nat) (env : Env) (H : Heap), l = pre ++ rest → rest.length + 1 ≤ m →
    evGh (.keep [2, 4, 20, 21, 22] [100002, 100004]) env H = some ([(2, .ptr 100002 0), (4, .ptr 100004 0), (20, .ro (l.map Le.cells)), (21, .int .i64 l.length), (22, .int .i64 pre.length)], [(100002, .box z.cells), (100004, .box s.cells)]) →
    iter m (evCode ⟨run tab prim glob n, glob⟩ (iter n) b25_1) env H = some (.exit 0, [(23, .bool false), (2, .ptr 100002 0), (4, .ptr 100004 0), (20, .ro (l.map Le.cells)), (21, .int .i64 l.length), (22, .int .i64 l.length)], [(100002, .box z.cells), (100004, .box (least s rest).cells)])
  | [], pre, s, m + 1, env, H, hp, hm, hk => by
    have e0 : pre = l := by rw [hp]; simp
    subst e0
    rw [iter_step]
    generalize iter m (evCode ⟨run tab prim glob n, glob⟩ (iter n) b25_1) = g
    simp only [b25_1, ob25_1_1, ob25_1_2, ob25_1_3, ob25_1_4, hk, go_sem, Nat.reduceAdd, Nat.reduceMul, reduceIte, Nat.reduceLeDiff, Int.reduceLE, Int.reduceLT, Int.reduceToNat, Int.lt_irrefl, afterIt, least]
  | x :: rest, pre, s, m + 1, env, H, hp, hm, hk => by
    have e0 : pre.length < l.length := by rw [hp]; simp
    have e1 : (pre.length : Int) < (l.length : Int) := by omega
    have e2 : (0 : Int) ≤ (pre.length : Int) := by omega
    have e3 := at_pre Le.cells hp
    have e4 : IntKind.i64.wrap ((pre.length : Int) + 1) = ((pre.length + 1 : Nat) : Int) := cast_add (by omega)
    have r1 := soonerP_ok (N := n) (by omega) s x.tm
    have ih := loop25 (n := n) l hl hn z rest (pre ++ [x]) (s.sooner x.tm) m
    rw [iter_step]
    generalize iter m (evCode ⟨run tab prim glob n, glob⟩ (iter n) b25_1) = g at ih ⊢
    simp only [List.length_append, List.length_cons, List.length_nil, Le.cells, St.cells] at hk ih e3 r1 ⊢
    simp only [b25_1, ob25_1_1, ob25_1_2, ob25_1_3, ob25_1_4, hk, go_sem, Nat.reduceAdd, Nat.reduceMul, reduceIte, Nat.reduceLeDiff, Int.reduceLE, Int.reduceLT, Int.reduceToNat, e1, e2, e3, e4, r1, List.length_map, Nat.beq_refl, afterIt, least]
    exact ih _ _ (by rw [hp]; simp) (by simp at hm; omega) rfl
def z0 : St := ⟨0, 0, 0⟩
def leastOf : List Le → St
  | [] => z0
  | x :: r => least x.tm (x :: r)
theorem least_ok {N : Nat} (l : List Le) (hl : l.length ≤ 2000000) (hr : leasesRight l = true) (hN : l.length + 30 ≤ N) : run tab prim glob N 25 [.ro (l.map Le.cells)] = some (.tuple [.agg (leastOf l).cells, .bool (decide (0 < l.length))], []) := by
  obtain ⟨n, rfl⟩ : ∃ n, N = n + 1 := ⟨N - 1, by omega⟩
  rw [enters (fn := c25) rfl]
  have r1 := leaseR_ok (N := n) l hl (by omega)
  rw [hr] at r1
  cases l with
  | nil =>
    simp only [List.map_nil] at r1 ⊢
    simp only [c25, o25_1, o25_2, o25_3, o25_4, o25_5, o25_6, go_sem, Nat.reduceAdd, Nat.reduceMul, reduceIte, Nat.reduceLeDiff, Int.reduceLE, Int.reduceLT, Int.reduceToNat, r1, leastOf, z0, St.cells, Nat.lt_irrefl]
  | cons x t =>
    have hL := fun env H h => loop25 (n := n) (x :: t) hl (by omega) z0 (x :: t) [] x.tm n env H rfl (by omega) h
    generalize hg : iter n (evCode ⟨run tab prim glob n, glob⟩ (iter n) b25_1) = g at hL
    have n1 : ((((x :: t).length : Nat) : Int) = 0) = False := by simp; omega
    have n2 : 0 < (x :: t).length := by simp
    simp only [z0, St.cells, List.map_cons, Le.cells] at hL r1 ⊢
    simp only [List.length_cons] at n1 n2 hL
    simp only [c25, o25_1, o25_2, o25_3, o25_4, o25_5, o25_6, go_sem, Nat.reduceAdd, Nat.reduceMul, reduceIte, Nat.reduceLeDiff, Int.reduceLE, Int.reduceLT, Int.reduceToNat, mentL, ment, ment1, evGh, keepE, keepH, r1, n1, n2, hg, List.length_map, List.length_cons]
    rw [hL _ _ (by simp only [go_sem, Nat.reduceAdd, Nat.reduceMul, reduceIte, Nat.reduceLeDiff, Int.reduceLE, Int.reduceLT, Int.reduceToNat, mentL, ment, ment1, evGh, keepE, keepH])]
    simp only [go_sem, Nat.reduceAdd, Nat.reduceMul, reduceIte, Nat.reduceLeDiff, Int.reduceLE, Int.reduceLT, Int.reduceToNat, leastOf, St.cells, List.length_cons, n2]
theorem loop56 {n : Nat} (l : List St) (hl : l.length ≤ 2000000) (hn : 20 ≤ n) (z : St) : ∀ (rest pre : List St) (s : St) (m : Nat) (env : Env) (H : Heap), l = pre ++ rest → rest.length + 1 ≤ m →
    evGh (.keep [0, 1, 4, 5, 6] [100004, 100005]) env H = some ([(0, .ro (l.map St.cells)), (1, .func 24 []), (4, .ptr 100004 0), (5, .ptr 100005 0), (6, .int .i64 pre.length)], [(100004, .box z.cells), (100005, .box s.cells)]) →
    Ends (iter m (evCode ⟨run tab prim glob n, glob⟩ (iter n) b56_1) env H) (fun ex e h => ex = .exit 0 ∧ getT e 4 = .ptr 100004 0 ∧ getT e 5 = .ptr 100005 0 ∧ h = [(100004, .box z.cells), (100005, .box (greatest s rest).cells)])
  | [], pre, s, m + 1, env, H, hp, hm, hk => by
    have e0 : pre = l := by rw [hp]; simp
    subst e0
    rw [iter_step]
    generalize iter m (evCode ⟨run tab prim glob n, glob⟩ (iter n) b56_1) = g
    simp only [b56_1, ob56_1_1, ob56_1_2, ob56_1_3, ob56_1_4, hk, go_sem, Nat.reduceAdd, Nat.reduceMul, reduceIte, Nat.reduceLeDiff, Int.reduceLE, Int.reduceLT, Int.reduceToNat, Int.lt_irrefl, afterIt, greatest, List.length_map]
    exact Ends.of ⟨rfl, rfl, rfl, rfl⟩
  | x :: rest, pre, s, m + 1, env, H, hp, hm, hk => by
    have e0 : pre.length < l.length := by rw [hp]; simp
    have e1 : (pre.length : Int) < (l.length : Int) := by omega
    have e2 : (0 : Int) ≤ (pre.length : Int) := by omega
    have e3 := at_pre St.cells hp
    have e4 : IntKind.i64.wrap ((pre.length : Int) + 1) = ((pre.length + 1 : Nat) : Int) := cast_add (by omega)
    have r1 := compare_ok (N := n) (by omega) x s
    have ih := loop56 (n := n) l hl hn z rest (pre ++ [x]) (s.later x) m
    have hp2 := cmp_pos x s
    rw [iter_step]
    generalize iter m (evCode ⟨run tab prim glob n, glob⟩ (iter n) b56_1) = g at ih ⊢
    simp only [List.length_append, List.length_cons, List.length_nil, St.cells] at hk ih e3 r1 ⊢
    by_cases h : 0 < x.cmp s
    · have h1 := hp2.1 h
      simp only [b56_1, ob56_1_1, ob56_1_2, ob56_1_3, ob56_1_4, hk, go_sem, Nat.reduceAdd, Nat.reduceMul, reduceIte, Nat.reduceLeDiff, Int.reduceLE, Int.reduceLT, Int.reduceToNat, e1, e2, e3, e4, r1, h, List.length_map, Nat.beq_refl, afterIt, greatest]
      exact ih _ _ (by rw [hp]; simp) (by simp at hm; omega) (by simp only [St.later, h1, if_true]; rfl)
    · have h1 : ¬ s.lt x = true := fun h2 => h (hp2.2 h2)
      simp only [b56_1, ob56_1_1, ob56_1_2, ob56_1_3, ob56_1_4, hk, go_sem, Nat.reduceAdd, Nat.reduceMul, reduceIte, Nat.reduceLeDiff, Int.reduceLE, Int.reduceLT, Int.reduceToNat, e1, e2, e3, e4, r1, h, List.length_map, Nat.beq_refl, afterIt, greatest]
      exact ih _ _ (by rw [hp]; simp) (by simp at hm; omega) (by simp only [St.later, if_neg h1]; rfl)
theorem max_ok {N : Nat} (x : St) (t : List St) (hl : t.length ≤ 1000000) (hN : t.length + 30 ≤ N) : run tab prim glob N 56 [.ro ((x :: t).map St.cells), .func 24 []] = some (.agg (greatest x t).cells, []) := by
  obtain ⟨n, rfl⟩ : ∃ n, N = n + 1 := ⟨N - 1, by omega⟩
  rw [enters (fn := c56) rfl]
  have hL := fun env H h => loop56 (n := n) (x :: t) (by simp; omega) (by omega) z0 t [x] x n env H rfl (by omega) h
  generalize hg : iter n (evCode ⟨run tab prim glob n, glob⟩ (iter n) b56_1) = g at hL
  have n1 : ¬ (((x :: t).length : Nat) : Int) < 1 := by simp; omega
  simp only [z0, St.cells, List.map_cons, List.length_cons, List.length_nil] at hL n1 ⊢
  simp only [c56, o56_1, o56_2, o56_3, o56_4, o56_5, o56_6, go_sem, Nat.reduceAdd, Nat.reduceMul, reduceIte, Nat.reduceLeDiff, Int.reduceLE, Int.reduceLT, Int.reduceToNat, mentL, ment, ment1, evGh, keepE, keepH, n1, hg, List.length_map, List.length_cons]
  generalize hE : g _ _ = o
  obtain ⟨ex, env', H', rfl, rfl, h2, h3, rfl⟩ := Ends.at hL hE (by simp only [go_sem, Nat.reduceAdd, Nat.reduceMul, reduceIte, Nat.reduceLeDiff, Int.reduceLE, Int.reduceLT, Int.reduceToNat, mentL, ment, ment1, evGh, keepE, keepH])
  simp only [go_sem, Nat.reduceAdd, Nat.reduceMul, reduceIte, Nat.reduceLeDiff, Int.reduceLE, Int.reduceLT, Int.reduceToNat, h2, h3]
end Go.Proofs.YtefoleocbhkobaaGreatDoor
namespace Go.Proofs.YtefoleocbhkobaaGreatDoor
open Go Go.Ev
set_option linter.unusedSectionVars false
set_option linter.unusedSimpArgs false
set_option linter.unusedVariables false
section
variable (d : Dr) (j : Jb)
@[go_sem] theorem dr_clo (H : Heap) : cloL H d.cellsL = some (d.cellsL, []) := rfl
@[go_sem] theorem jr_clo (H : Heap) : cloL H j.cells = some (j.cells, []) := rfl
@[go_sem] theorem dr_ment (ids : List Nat) : mentL ids d.cellsL = true := rfl
@[go_sem] theorem jr_ment (ids : List Nat) : mentL ids j.cells = true := rfl
@[go_sem] theorem rz_len : refZ.length = 29 := rfl
@[go_sem] theorem rz_spl : splice refZ 0 d.cellsL = d.cellsL := rfl
@[go_sem] theorem rz_ment (ids : List Nat) : mentL ids refZ = true := rfl
@[go_sem] theorem dl : d.cellsL.length = 29 := rfl
@[go_sem high] theorem dr_all : rdc d.cellsL 0 29 true = some (.agg d.cellsL) := rfl
@[go_sem high] theorem dr_mark : rdc d.cellsL 5 3 true = some (.agg d.mark.cells) := rfl
@[go_sem high] theorem dr_job : rdc d.cellsL 8 20 true = some (.agg d.job.cells) := rfl
@[go_sem high] theorem dr_tm : rdc d.cellsL 24 3 true = some (.agg d.job.tm.cells) := rfl
@[go_sem] theorem dc0 : d.cellsL[0]? = some (.ro (d.places.map Pl.cells)) := rfl
@[go_sem] theorem dc1 : d.cellsL[1]? = some (.ro (d.cells.map infRow)) := rfl
@[go_sem] theorem dc2 : d.cellsL[2]? = some (.int .i64 d.next) := rfl
@[go_sem] theorem dc3 : d.cellsL[3]? = some (.ro (d.leases.map Le.cells)) := rfl
@[go_sem] theorem dc4 : d.cellsL[4]? = some (.ro (d.lows.map St.cells)) := rfl
@[go_sem] theorem dc8 : d.cellsL[8]? = some (.int .i64 d.job.kind) := rfl
@[go_sem] theorem dc9 : d.cellsL[9]? = some (.int .i64 d.job.step) := rfl
@[go_sem] theorem dc10 : d.cellsL[10]? = some (.int .i64 d.job.id) := rfl
@[go_sem] theorem dc23 : d.cellsL[23]? = some (.ro (d.job.wait.map rowI)) := rfl
@[go_sem] theorem dc28 : d.cellsL[28]? = some (.ro (d.opened.map Rw.cells)) := rfl
@[go_sem] theorem jl : j.cells.length = 20 := rfl
@[go_sem high] theorem jr_all : rdc j.cells 0 20 true = some (.agg j.cells) := rfl
@[go_sem high] theorem jr_tm : rdc j.cells 16 3 true = some (.agg j.tm.cells) := rfl
@[go_sem] theorem jc0 : j.cells[0]? = some (.int .i64 j.kind) := rfl
@[go_sem] theorem jc1 : j.cells[1]? = some (.int .i64 j.step) := rfl
@[go_sem] theorem jc2 : j.cells[2]? = some (.int .i64 j.id) := rfl
@[go_sem] theorem jc3 : j.cells[3]? = some (.int .i64 j.shard) := rfl
@[go_sem] theorem jc4 : j.cells[4]? = some (.int .i64 j.other) := rfl
@[go_sem] theorem jc5 : j.cells[5]? = some (.int .i64 j.cell) := rfl
@[go_sem] theorem jc6 : j.cells[6]? = some (.int .i64 j.to) := rfl
@[go_sem] theorem jc7 : j.cells[7]? = some (.int .i64 j.epoch) := rfl
@[go_sem] theorem jc8 : j.cells[8]? = some (.str j.key) := rfl
@[go_sem] theorem jc9 : j.cells[9]? = some (.ro (j.parts.map fun s => [.str s])) := rfl
@[go_sem] theorem jc10 : j.cells[10]? = some (.int .i64 j.part) := rfl
@[go_sem] theorem jc11 : j.cells[11]? = some (.int .i64 j.client) := rfl
@[go_sem] theorem jc12 : j.cells[12]? = some (.int .i64 j.req) := rfl
@[go_sem] theorem jc15 : j.cells[15]? = some (.ro (j.wait.map rowI)) := rfl
@[go_sem] theorem jc19 : j.cells[19]? = some (.ro (j.members.map rowI)) := rfl
end
def Inf.lead (x : Inf) : Int := x.members.headD 0
def Dr.lead (d : Dr) (c : Int) : Int := ((d.cells[(c - 1).toNat]?).map Inf.lead).getD 0
def Dr.led (d : Dr) : Prop := ∀ c : Int, 1 ≤ c → c ≤ 3 → ∃ x m r, d.cells[(c - 1).toNat]? = some x ∧ x.members = m :: r
theorem lead_ok {N : Nat} (d : Dr) (hd : d.led) (c : Int) (h1 : 1 ≤ c) (h3 : c ≤ 3) (hN : 1 ≤ N) : run tab prim glob N 57 [.agg d.cellsL, .int .i64 c] = some (.int .i64 (d.lead c), []) := by
  obtain ⟨n, rfl⟩ : ∃ n, N = n + 1 := ⟨N - 1, by omega⟩
  rw [enters (fn := c57) rfl]
  obtain ⟨x, m, r, hx, hm⟩ := hd c h1 h3
  have e1 : IntKind.i64.wrap (c - 1) = c - 1 := IntWalk.i64_in _ (by omega)
  have e2 : 0 ≤ c - 1 := by omega
  have e3 : (d.cells.map infRow)[(c - 1).toNat]? = some [.int .i64 x.view, .ro (x.members.map rowI), .bool x.whole] := by rw [List.getElem?_map, hx]; rfl
  have e4 : d.lead c = m := by unfold Dr.lead; rw [hx]; simp [Inf.lead, hm]
  rw [hm] at e3
  simp only [c57, o57_1, o57_2, go_sem, Nat.reduceAdd, Nat.reduceMul, reduceIte, Nat.reduceLeDiff, Int.reduceLE, Int.reduceLT, Int.reduceToNat, e1, e2, e3, e4, rowI]
theorem lead19_ok {N : Nat} (d : Dr) (hd : d.led) (c : Int) (h1 : 1 ≤ c) (h3 : c ≤ 3) (hN : 1 ≤ N) : run tab prim glob N 59 [.agg d.cellsL, .int .i64 c] = some (.int .i64 (d.lead c), []) := by
  obtain ⟨n, rfl⟩ : ∃ n, N = n + 1 := ⟨N - 1, by omega⟩
  rw [enters (fn := c59) rfl]
  obtain ⟨x, m, r, hx, hm⟩ := hd c h1 h3
  have e1 : IntKind.i64.wrap (c - 1) = c - 1 := IntWalk.i64_in _ (by omega)
  have e2 : 0 ≤ c - 1 := by omega
  have e3 : (d.cells.map infRow)[(c - 1).toNat]? = some [.int .i64 x.view, .ro (x.members.map rowI), .bool x.whole] := by rw [List.getElem?_map, hx]; rfl
  have e4 : d.lead c = m := by unfold Dr.lead; rw [hx]; simp [Inf.lead, hm]
  rw [hm] at e3
  simp only [c59, o59_1, o59_2, go_sem, Nat.reduceAdd, Nat.reduceMul, reduceIte, Nat.reduceLeDiff, Int.reduceLE, Int.reduceLT, Int.reduceToNat, e1, e2, e3, e4, rowI]
abbrev isId (id : Int) : Pl → Bool := fun p => decide (p.shard = id)
def ofPl (l : List Pl) (id : Int) : Option Pl := l.find? (isId id)
theorem idx_find (f : Pl → Bool) : ∀ (l : List Pl) (i : Nat), (l.find? f = none ∧ idxFrom f i l = -1) ∨ ∃ p k, l.find? f = some p ∧ idxFrom f i l = ((i + k : Nat) : Int) ∧ l[k]? = some p
  | [], i => .inl ⟨rfl, rfl⟩
  | x :: r, i => by
    cases h : f x
    · rcases idx_find f r (i + 1) with ⟨h1, h2⟩ | ⟨p, k, h1, h2, h3⟩
      · exact .inl ⟨by simp [h, h1], by simp [idxFrom, h, h2]⟩
      · exact .inr ⟨p, k + 1, by simp [h, h1], by simp [idxFrom, h, h2]; omega, by simpa using h3⟩
    · exact .inr ⟨x, 0, by simp [h], by simp [idxFrom, h], rfl⟩
theorem same119_ok {N : Nat} (hN : 1 ≤ N) (p : Pl) (id : Int) : run tab prim glob N 119 [.agg p.cells, .rptr [.int .i64 id]] = some (.bool (isId id p), []) := by
  obtain ⟨n, rfl⟩ : ∃ n, N = n + 1 := ⟨N - 1, by omega⟩
  rw [enters (fn := c119) rfl]
  simp only [c119, o119_1, o119_2, Pl.cells, go_sem, Nat.reduceAdd, Nat.reduceMul, reduceIte, Nat.reduceLeDiff, Int.reduceLE, Int.reduceLT, Int.reduceToNat]
theorem at_ok {N : Nat} (l : List Pl) (hl : l.length ≤ 1000000000) (id : Int) (hN : l.length + 6 ≤ N) : run tab prim glob N 89 [.ro (l.map Pl.cells), .int .i64 id] = some (.int .i64 (idxFrom (isId id) 0 l), []) := by
  obtain ⟨n, rfl⟩ : ∃ n, N = n + 1 := ⟨N - 1, by omega⟩
  rw [enters (fn := c89) rfl]
  have h1 := index_ok (N := n) l hl 119 [.int .i64 id] (isId id) (fun p _ => same119_ok (by omega) p id) (by omega)
  simp only [c89, o89_1, o89_2, go_sem, Nat.reduceAdd, Nat.reduceMul, reduceIte, Nat.reduceLeDiff, Int.reduceLE, Int.reduceLT, Int.reduceToNat, h1]
def p0 : Pl := ⟨[], [], 0, 0, 0⟩
def ofRes (o : Option Pl) : PV := match o with | some p => .tuple [.agg p.cells, .bool true] | none => .tuple [.agg p0.cells, .bool false]
theorem of_ok {N B : Nat} (l : List Pl) (hB : B ≤ 1000000000) (hl : l.length ≤ B) (hs : ∀ p ∈ l, p.small B) (hr : placesRight l = true) (id : Int) (hN : 10 * B + 80 ≤ N) : run tab prim glob N 47 [.ro (l.map Pl.cells), .int .i64 id] = some (ofRes (ofPl l id), []) := by
  obtain ⟨n, rfl⟩ : ∃ n, N = n + 1 := ⟨N - 1, by omega⟩
  rw [enters (fn := c47) rfl]
  have r1 := at_ok (N := n) l (by omega) id (by omega)
  have r2 := places_ok (N := n) l hB hl hs (by omega)
  rw [hr] at r2
  unfold ofPl
  rcases idx_find (isId id) l 0 with ⟨h1, h2⟩ | ⟨p, k, h1, h2, h3⟩
  · rw [h2] at r1
    have e1 : ((-1 : Int) < 0) := by decide
    simp only [c47, o47_1, o47_2, o47_3, o47_4, o47_5, go_sem, Nat.reduceAdd, Nat.reduceMul, reduceIte, Nat.reduceLeDiff, Int.reduceLE, Int.reduceLT, Int.reduceToNat, r1, r2, h1, ofRes, p0, Pl.cells, e1]
  · rw [h2] at r1
    rw [Nat.zero_add] at r1
    have e1 : ¬ ((k : Int) < 0) := by omega
    have e2 : (0 : Int) ≤ (k : Int) := by omega
    have e3 : (l.map Pl.cells)[k]? = some p.cells := by rw [List.getElem?_map, h3]; rfl
    simp only [Pl.cells] at e3
    simp only [c47, o47_1, o47_2, o47_3, o47_4, o47_5, go_sem, Nat.reduceAdd, Nat.reduceMul, reduceIte, Nat.reduceLeDiff, Int.reduceLE, Int.reduceLT, Int.reduceToNat, r1, r2, h1, ofRes, Pl.cells, e1, e2, e3]
theorem loop53 {n : Nat} (l : List Pl) (hl : l.length ≤ 1000000000) (id : Int) : ∀ (rest pre : List Pl) (m : Nat) (env : Env) (H : Heap), l = pre ++ rest → rest.length + 1 ≤ m →
    evGh (.keep [0, 1, 5] []) env H = some ([(0, .ro (l.map Pl.cells)), (1, .int .i64 id), (5, .int .i64 pre.length)], []) →
    Ends (iter m (evCode ⟨run tab prim glob n, glob⟩ (iter n) b53_1) env H) (fun ex e _ => if idxFrom (isId id) pre.length rest = -1 then ex = .exit 0 else ex = .ret ∧ getT e 4 = .int .i64 (idxFrom (isId id) pre.length rest))
  | [], pre, m + 1, env, H, hp, hm, hk => by
    have e1 : pre.length = l.length := by rw [hp]; simp
    rw [iter_step]
    generalize iter m (evCode ⟨run tab prim glob n, glob⟩ (iter n) b53_1) = g
    simp only [b53_1, ob53_1_1, ob53_1_2, ob53_1_3, ob53_1_4, hk, go_sem, Nat.reduceAdd, Nat.reduceMul, reduceIte, Nat.reduceLeDiff, Int.reduceLE, Int.reduceLT, Int.reduceToNat, e1, Int.lt_irrefl, afterIt, idxFrom, List.length_map]
    exact Ends.of rfl
  | x :: rest, pre, m + 1, env, H, hp, hm, hk => by
    have e0 : pre.length < l.length := by rw [hp]; simp
    have e1 : (pre.length : Int) < (l.length : Int) := by omega
    have e2 : (0 : Int) ≤ (pre.length : Int) := by omega
    have e3 := at_pre Pl.cells hp
    have e4 : IntKind.i64.wrap ((pre.length : Int) + 1) = ((pre.length + 1 : Nat) : Int) := cast_add (by omega)
    have ih := loop53 (n := n) l hl id rest (pre ++ [x]) m
    rw [iter_step]
    generalize iter m (evCode ⟨run tab prim glob n, glob⟩ (iter n) b53_1) = gg at ih ⊢
    simp only [Pl.cells] at e3
    by_cases k1 : x.shard = id
    · have e5 : ¬ ((pre.length : Int) = -1) := by omega
      simp only [b53_1, ob53_1_1, ob53_1_2, ob53_1_3, ob53_1_4, hk, go_sem, Nat.reduceAdd, Nat.reduceMul, reduceIte, Nat.reduceLeDiff, Int.reduceLE, Int.reduceLT, Int.reduceToNat, e1, e2, e3, e4, afterIt, idxFrom, isId, k1, e5, List.length_map]
      exact Ends.of ⟨rfl, rfl⟩
    · simp only [b53_1, ob53_1_1, ob53_1_2, ob53_1_3, ob53_1_4, hk, go_sem, Nat.reduceAdd, Nat.reduceMul, reduceIte, Nat.reduceLeDiff, Int.reduceLE, Int.reduceLT, Int.reduceToNat, e1, e2, e3, e4, afterIt, idxFrom, isId, k1, List.length_map]
      rw [show pre.length + 1 = (pre ++ [x]).length by simp]
      simp only [Bool.false_eq_true, if_false]
      refine ih _ _ (by rw [hp]; simp) (by simp at hm; omega) ?_
      rfl
theorem at15_ok {N : Nat} (l : List Pl) (hl : l.length ≤ 1000000000) (id : Int) (hN : l.length + 4 ≤ N) : run tab prim glob N 53 [.ro (l.map Pl.cells), .int .i64 id] = some (.int .i64 (idxFrom (isId id) 0 l), []) := by
  obtain ⟨n, rfl⟩ : ∃ n, N = n + 1 := ⟨N - 1, by omega⟩
  rw [enters (fn := c53) rfl]
  have hL := fun env H h => loop53 (n := n) l hl id l [] n env H rfl (by omega) h
  simp only [c53, o53_1, o53_2, o53_3, go_sem, Nat.reduceAdd, Nat.reduceMul, reduceIte, Nat.reduceLeDiff, Int.reduceLE, Int.reduceLT, Int.reduceToNat]
  generalize iter n (evCode ⟨run tab prim glob n, glob⟩ (iter n) b53_1) = gg at hL ⊢
  generalize hE : gg _ _ = o
  obtain ⟨ex, env', H', rfl, h5⟩ := Ends.at hL hE (by rfl)
  rw [show ([] : List Pl).length = 0 from rfl] at h5
  split at h5
  · rename_i h6
    subst h5
    rw [h6]
    simp only [go_sem, Nat.reduceAdd, Nat.reduceMul, reduceIte, Nat.reduceLeDiff, Int.reduceLE, Int.reduceLT, Int.reduceToNat]
  · obtain ⟨rfl, h6⟩ := h5
    simp only [go_sem, Nat.reduceAdd, Nat.reduceMul, reduceIte, Nat.reduceLeDiff, Int.reduceLE, Int.reduceLT, Int.reduceToNat, h6]
end Go.Proofs.YtefoleocbhkobaaGreatDoor
namespace Go.Proofs.YtefoleocbhkobaaGreatDoor
open Go Go.Ev
set_option linter.unusedSectionVars false
set_option linter.unusedSimpArgs false
set_option linter.unusedVariables false
structure Ms where
  kind : Int := 0
  to_ : Int := 0
  shard : Int := 0
  epoch : Int := 0
  move : Int := 0
  lease : Int := 0
  n : Int := 0
  of_ : Int := 0
  tm : St := ⟨0, 0, 0⟩
  text : List UInt8 := []
  err : Int := 0
  places : List Pl := []
  members : List Int := []
def Ms.cells (m : Ms) : List PV := [.int .i64 m.kind, .int .i64 0, .int .i64 m.to_, .int .i64 m.shard, .int .i64 m.epoch, .int .i64 m.move, .int .i64 m.lease, .int .i64 m.n, .int .i64 m.of_, .int .i64 m.tm.wall, .int .i64 m.tm.tick, .int .i64 m.tm.node, .str m.text,
  .int .i64 0, .int .i64 0, .int .i64 0, .str [], .str [], .bool false, .str [], .int .i64 0, .int .i64 0, .int .i64 0, .str [], .int .i64 0, .int .i64 m.err, .int .i64 0, .int .i64 0, .int .i64 0, .bool false, .str [], .ro [], .str [], .bool false,
  .ro (m.places.map Pl.cells), .ro (m.members.map rowI)]
theorem rows_szok {X : Type} (n : Nat) (c : X → List PV) (h : ∀ x, (c x).length = n) : ∀ l : List X, szOK n (l.map c) = true
  | [] => rfl
  | x :: r => by simp only [List.map_cons, szOK, h x, Nat.beq_refl, rows_szok n c h r]
@[go_sem] theorem ms_szok (l : List Ms) : szOK 36 (l.map Ms.cells) = true := rows_szok 36 Ms.cells (fun _ => rfl) l
def holdOf (d : Dr) (id : Int) : List Ms := match ofPl d.places id with
  | none => []
  | some p => if d.job.step = 1 then [{ kind := 8, to_ := d.lead p.cell, n := p.cell, shard := id, epoch := p.epoch, lease := d.job.id }]
    else if d.job.step = 2 then [{ kind := 10, to_ := d.lead p.cell, n := p.cell, shard := id, lease := d.job.id, tm := d.job.tm }] else []
def holdsOf (d : Dr) : List Ms := d.job.wait.flatMap (holdOf d)
theorem holdOf_len (d : Dr) (id : Int) : (holdOf d id).length ≤ 1 := by
  unfold holdOf
  split
  · simp
  · split
    · simp
    · split <;> simp
theorem flat_len (f : Int → List Ms) (h : ∀ x, (f x).length ≤ 1) : ∀ l : List Int, (l.flatMap f).length ≤ l.length
  | [] => Nat.le_refl _
  | x :: r => by
    have := flat_len f h r
    have := h x
    simp only [List.flatMap_cons, List.length_append, List.length_cons]; omega
theorem find_mem {l : List Pl} {id : Int} {p : Pl} (h : ofPl l id = some p) : p ∈ l ∧ p.shard = id := by
  have h1 := List.mem_of_find?_eq_some h
  have h2 := List.find?_some h
  exact ⟨h1, by simpa [isId] using h2⟩
set_option maxHeartbeats 4000000 in
theorem loop96 {n : Nat} (d : Dr) (hl : d.job.wait.length ≤ 2000000) (hn : 2 ≤ n) (hled : d.led) (hp3 : ∀ p ∈ d.places, 1 ≤ p.cell ∧ p.cell ≤ 3)
    (hof : ∀ id, run tab prim glob n 47 [.ro (d.places.map Pl.cells), .int .i64 id] = some (ofRes (ofPl d.places id), [])) : ∀ (rest pre : List Int) (acc : List Ms) (m : Nat) (env : Env) (H : Heap), d.job.wait = pre ++ rest → acc.length ≤ pre.length → rest.length + 1 ≤ m →
    evGh (.keep [1, 3, 10, 11, 12] [100001, 300003]) env H = some ([(1, .ptr 100001 0), (3, .own 300003 0 acc.length acc.length), (10, .ro (d.job.wait.map rowI)), (11, .int .i64 d.job.wait.length), (12, .int .i64 pre.length)],
      [(100001, .box d.cellsL), (300003, .arr 36 (acc.map Ms.cells))]) →
    Ends (iter m (evCode ⟨run tab prim glob n, glob⟩ (iter n) b96_1) env H) (fun ex e h => ex = .exit 0 ∧ getT e 3 = .own 300003 0 (acc ++ rest.flatMap (holdOf d)).length (acc ++ rest.flatMap (holdOf d)).length ∧ h = [(100001, .box d.cellsL), (300003, .arr 36 ((acc ++ rest.flatMap (holdOf d)).map Ms.cells))])
  | [], pre, acc, m + 1, env, H, hp, ha, hm, hk => by
    have e0 : pre.length = d.job.wait.length := by rw [hp]; simp
    rw [iter_step]
    generalize iter m (evCode ⟨run tab prim glob n, glob⟩ (iter n) b96_1) = g
    simp only [b96_1, ob96_1_1, ob96_1_2, ob96_1_3, ob96_1_4, ob96_1_5, ob96_1_6, ob96_1_7, ob96_1_8, ob96_1_9, hk, go_sem, Nat.reduceAdd, Nat.reduceMul, reduceIte, Nat.reduceLeDiff, Int.reduceLE, Int.reduceLT, Int.reduceToNat, e0, Int.lt_irrefl, afterIt, List.flatMap_nil]
    exact Ends.of ⟨rfl, rfl, rfl⟩
  | x :: rest, pre, acc, m + 1, env, H, hp, ha, hm, hk => by
    have e0 : pre.length < d.job.wait.length := by rw [hp]; simp
    have e1 : (pre.length : Int) < (d.job.wait.length : Int) := by omega
    have e2 : (0 : Int) ≤ (pre.length : Int) := by omega
    have e3 := at_pre rowI hp
    have e4 : IntKind.i64.wrap ((pre.length : Int) + 1) = ((pre.length + 1 : Nat) : Int) := cast_add (by omega)
    have e6 : ¬ acc.length + 1 ≤ acc.length := by omega
    have e7 : (acc.length + 1) * 392 ≤ 140737488355328 := by omega
    have r1 := hof x
    have ih := loop96 (n := n) d hl hn hled hp3 hof rest (pre ++ [x]) (acc ++ holdOf d x) m
    have fin : (x :: rest).flatMap (holdOf d) = holdOf d x ++ rest.flatMap (holdOf d) := rfl
    rw [iter_step, fin, ← List.append_assoc]
    generalize iter m (evCode ⟨run tab prim glob n, glob⟩ (iter n) b96_1) = g at ih ⊢
    generalize acc ++ holdOf d x ++ rest.flatMap (holdOf d) = R at ih ⊢
    cases ho : ofPl d.places x with
    | none =>
      have e8 : holdOf d x = [] := by unfold holdOf; rw [ho]
      rw [ho] at r1
      rw [e8, List.append_nil] at ih
      simp only [len1, rowI] at ih e3
      simp only [b96_1, ob96_1_1, ob96_1_2, ob96_1_3, ob96_1_4, ob96_1_5, ob96_1_6, ob96_1_7, ob96_1_8, ob96_1_9, hk, go_sem, Nat.reduceAdd, Nat.reduceMul, reduceIte, Nat.reduceLeDiff, Int.reduceLE, Int.reduceLT, Int.reduceToNat, e1, e2, e3, e4, e8, r1, ofRes, p0, Pl.cells, List.length_map, Nat.beq_refl, afterIt, rowI]
      exact ih _ _ (by rw [hp]; simp) (by omega) (by simp at hm; omega) rfl
    | some p =>
      rw [ho] at r1
      obtain ⟨hm1, _⟩ := find_mem ho
      obtain ⟨c1, c3⟩ := hp3 p hm1
      have r2 := lead_ok (N := n) d hled p.cell c1 c3 (by omega)
      by_cases h1 : d.job.step = 1
      · have e8 : holdOf d x = [{ kind := 8, to_ := d.lead p.cell, n := p.cell, shard := x, epoch := p.epoch, lease := d.job.id }] := by unfold holdOf; rw [ho]; simp only [h1, if_true]
        rw [e8] at ih
        simp only [len1, List.map_append, List.map_cons, List.map_nil, rowI, Ms.cells, Nat.zero_add] at ih e3
        simp only [b96_1, ob96_1_1, ob96_1_2, ob96_1_3, ob96_1_4, ob96_1_5, ob96_1_6, ob96_1_7, ob96_1_8, ob96_1_9, hk, go_sem, Nat.reduceAdd, Nat.reduceMul, reduceIte, Nat.reduceLeDiff, Int.reduceLE, Int.reduceLT, Int.reduceToNat, e1, e2, e3, e4, e6, e7, r1, r2, h1, ofRes, Pl.cells, List.length_map, Nat.beq_refl, afterIt, rowI]
        exact ih _ _ (by rw [hp]; simp) (by omega) (by simp at hm; omega) rfl
      · by_cases h2 : d.job.step = 2
        · have e8 : holdOf d x = [{ kind := 10, to_ := d.lead p.cell, n := p.cell, shard := x, lease := d.job.id, tm := d.job.tm }] := by unfold holdOf; rw [ho]; simp only [h2, if_true]; rfl
          rw [e8] at ih
          have n1 : ((2 : Int) = 1) = False := by simp
          simp only [len1, List.map_append, List.map_cons, List.map_nil, rowI, Ms.cells, Nat.zero_add] at ih e3
          simp only [b96_1, ob96_1_1, ob96_1_2, ob96_1_3, ob96_1_4, ob96_1_5, ob96_1_6, ob96_1_7, ob96_1_8, ob96_1_9, hk, go_sem, Nat.reduceAdd, Nat.reduceMul, reduceIte, Nat.reduceLeDiff, Int.reduceLE, Int.reduceLT, Int.reduceToNat, e1, e2, e3, e4, e6, e7, r1, r2, h2, n1, ofRes, Pl.cells, St.cells, List.length_map, Nat.beq_refl, afterIt, rowI]
          exact ih _ _ (by rw [hp]; simp) (by omega) (by simp at hm; omega) rfl
        · have e8 : holdOf d x = [] := by unfold holdOf; rw [ho]; simp only [h1, h2, if_false]
          rw [e8, List.append_nil] at ih
          simp only [len1, rowI] at ih e3
          simp only [b96_1, ob96_1_1, ob96_1_2, ob96_1_3, ob96_1_4, ob96_1_5, ob96_1_6, ob96_1_7, ob96_1_8, ob96_1_9, hk, go_sem, Nat.reduceAdd, Nat.reduceMul, reduceIte, Nat.reduceLeDiff, Int.reduceLE, Int.reduceLT, Int.reduceToNat, e1, e2, e3, e4, e8, r1, h1, h2, ofRes, Pl.cells, List.length_map, Nat.beq_refl, afterIt, rowI]
          exact ih _ _ (by rw [hp]; simp) (by omega) (by simp at hm; omega) rfl
theorem holds_ok {N : Nat} (d : Dr) (hl : d.job.wait.length ≤ 2000000) (hled : d.led) (hp3 : ∀ p ∈ d.places, 1 ≤ p.cell ∧ p.cell ≤ 3)
    (hof : ∀ id, run tab prim glob (N - 1) 47 [.ro (d.places.map Pl.cells), .int .i64 id] = some (ofRes (ofPl d.places id), [])) (hN : d.job.wait.length + 10 ≤ N) :
    run tab prim glob N 96 [.agg d.cellsL] = some (.ro ((holdsOf d).map Ms.cells), []) := by
  obtain ⟨n, rfl⟩ : ∃ n, N = n + 1 := ⟨N - 1, by omega⟩
  rw [enters (fn := c96) rfl]
  have hL := fun env H h => loop96 (n := n) d hl (by omega) hled hp3 hof d.job.wait [] [] n env H rfl (by simp) (by omega) h
  generalize hg : iter n (evCode ⟨run tab prim glob n, glob⟩ (iter n) b96_1) = g at hL
  simp only [c96, o96_1, o96_2, o96_3, o96_4, go_sem, Nat.reduceAdd, Nat.reduceMul, reduceIte, Nat.reduceLeDiff, Int.reduceLE, Int.reduceLT, Int.reduceToNat, mentL, ment, ment1, evGh, keepE, keepH, hg, List.length_map]
  generalize hE : g _ _ = o
  obtain ⟨ex, env', H', rfl, rfl, h2, rfl⟩ := Ends.at hL hE (by simp only [go_sem, Nat.reduceAdd, Nat.reduceMul, reduceIte, Nat.reduceLeDiff, Int.reduceLE, Int.reduceLT, Int.reduceToNat, mentL, ment, ment1, evGh, keepE, keepH])
  simp only [go_sem, Nat.reduceAdd, Nat.reduceMul, reduceIte, Nat.reduceLeDiff, Int.reduceLE, Int.reduceLT, Int.reduceToNat, h2, Nat.beq_refl, List.length_map, take_map, holdsOf]
end Go.Proofs.YtefoleocbhkobaaGreatDoor
namespace Go.Proofs.YtefoleocbhkobaaGreatDoor
open Go Go.Ev
set_option linter.unusedSectionVars false
set_option linter.unusedSimpArgs false
set_option linter.unusedVariables false
@[go_sem] theorem int_szok (l : List Int) : szOK 1 (l.map rowI) = true := rows_szok 1 rowI (fun _ => rfl) l
@[go_sem] theorem le_szok (l : List Le) : szOK 5 (l.map Le.cells) = true := rows_szok 5 Le.cells (fun _ => rfl) l
@[go_sem] theorem pl_szok (l : List Pl) : szOK 5 (l.map Pl.cells) = true := rows_szok 5 Pl.cells (fun _ => rfl) l
theorem clone_ok {N : Nat} (hN : 1 ≤ N) (l : List Int) (hl : l.length ≤ 1000000000) : run tab prim glob N 43 [.ro (l.map rowI)] = some (.fresh 1 (l.map rowI), []) := by
  obtain ⟨n, rfl⟩ : ∃ n, N = n + 1 := ⟨N - 1, by omega⟩
  have e : run tab prim glob (n + 1) 43 [.ro (l.map rowI)] = primC glob (lookC clonesL) 43 [.ro (l.map rowI)] := rfl
  have e2 : lookC clonesL 43 = some (c43, .fresh 1 []) := rfl
  rw [e]
  cases l with
  | nil => rfl
  | cons x r =>
    have e3 : primC glob (lookC clonesL) 43 [.ro ((x :: r).map rowI)] = evFn ⟨fun _ _ => none, glob⟩ (iter 0) c43 [.ro ((x :: r).map rowI)] := by
      unfold primC; rw [e2]; rfl
    rw [e3]
    have h1 : ((x :: r).map rowI).length * 8 ≤ 140737488355328 := by simp at hl ⊢; omega
    have h3 := take_map (x :: r) rowI
    simp only [List.map_cons, List.length_map, List.length_cons, rowI] at h1 h3 ⊢
    simp only [c43, o43_1, o43_2, o43_3, o43_4, go_sem, Nat.reduceAdd, Nat.reduceMul, reduceIte, Nat.reduceLeDiff, Int.reduceLE, Int.reduceLT, Int.reduceToNat, h1, h3, List.length_map, Nat.beq_refl]
structure Dr.Fine (d : Dr) : Prop where
  places : placesRight d.places = true
  leases : leasesRight d.leases = true
  cells : ∃ x1 x2 x3 s1 s2 s3, d.cells = [x1, x2, x3] ∧ d.lows = [s1, s2, s3] ∧ cellRight x1 s1 = true ∧ cellRight x2 s2 = true ∧ cellRight x3 s3 = true
  next2 : 2 ≤ d.next
  next40 : d.next ≤ 1099511627776
  mark : d.mark.right = true
  job : d.job.right = true
  opened8 : d.opened.length ≤ 8
  opened : rowsFrom 0 d.opened = true
theorem Dr.fine_iff (d : Dr) : d.right = true ↔ d.Fine := by
  unfold Dr.right
  simp only [Bool.and_eq_true, decide_eq_true_eq]
  constructor
  · rintro ⟨⟨⟨⟨⟨⟨⟨⟨⟨⟨h1, h2⟩, h3⟩, h4⟩, h5⟩, h6⟩, h7⟩, h8⟩, h9⟩, h10⟩, h11⟩
    refine ⟨h1, h2, ?_, h5, h6, h7, h8, by omega, h11⟩
    match hc : d.cells, hl : d.lows, h3, h4 with
    | [x1, x2, x3], [s1, s2, s3], _, _ =>
      rw [hc, hl] at h10
      simp only [cellsFrom, Bool.and_eq_true] at h10
      exact ⟨x1, x2, x3, s1, s2, s3, rfl, rfl, h10.1, h10.2.1, h10.2.2.1⟩
  · rintro ⟨h1, h2, ⟨x1, x2, x3, s1, s2, s3, hc, hl, c1, c2, c3⟩, h5, h6, h7, h8, h9, h11⟩
    refine ⟨⟨⟨⟨⟨⟨⟨⟨⟨⟨h1, h2⟩, by rw [hc]; rfl⟩, by rw [hl]; rfl⟩, h5⟩, h6⟩, h7⟩, h8⟩, by omega⟩, ?_⟩, h11⟩
    rw [hc, hl]
    simp only [cellsFrom, c1, c2, c3, o3_1, o3_2, o3_3, o3_4, o3_5, o3_6, o3_7, Bool.and_self]
theorem cell_fine {c : Inf} {s : St} (h : cellRight c s = true) : 1 ≤ c.view ∧ c.view ≤ 1099511627776 ∧ stores c.members = true ∧ s.right = true := by
  simp only [cellRight, rng, Bool.and_eq_true, decide_eq_true_eq] at h
  exact ⟨h.1.1.1, h.1.1.2, h.1.2, h.2⟩
theorem stores_cons {l : List Int} (h : stores l = true) : ∃ m r, l = m :: r := by
  cases l with
  | nil => simp [stores] at h
  | cons m r => exact ⟨m, r, rfl⟩
theorem Dr.Fine.cell {d : Dr} (h : d.Fine) (c : Int) (h1 : 1 ≤ c) (h3 : c ≤ 3) : ∃ x s, d.cells[(c - 1).toNat]? = some x ∧ d.lows[(c - 1).toNat]? = some s ∧ cellRight x s = true := by
  obtain ⟨x1, x2, x3, s1, s2, s3, hc, hl, c1, c2, c3⟩ := h.cells
  rw [hc, hl]
  have : c = 1 ∨ c = 2 ∨ c = 3 := by omega
  rcases this with rfl | rfl | rfl
  · exact ⟨x1, s1, rfl, rfl, c1⟩
  · exact ⟨x2, s2, rfl, rfl, c2⟩
  · exact ⟨x3, s3, rfl, rfl, c3⟩
theorem Dr.Fine.led {d : Dr} (h : d.Fine) : d.led := fun c h1 h3 => by
  obtain ⟨x, s, hx, _, hr⟩ := h.cell c h1 h3
  obtain ⟨m, r, hm⟩ := stores_cons (cell_fine hr).2.2.1
  exact ⟨x, m, r, hx, hm⟩
theorem places_good : ∀ (l pre : List Pl), placesFrom pre l = true → ∀ p ∈ l, p.good = true
  | [], _, _, _, h => by cases h
  | x :: r, pre, h, p, hp => by
    simp only [placesFrom, Bool.and_eq_true] at h
    rcases List.mem_cons.1 hp with rfl | hp
    · exact h.1.1
    · exact places_good r _ h.2 p hp
theorem good_fine {p : Pl} (h : p.good = true) : (1 ≤ p.shard ∧ p.shard ≤ 1099511627776) ∧ (1 ≤ p.epoch ∧ p.epoch ≤ 1099511627776) ∧ 1 ≤ p.cell ∧ p.cell ≤ 3 := by
  simp only [Pl.good, rng, Bool.and_eq_true, decide_eq_true_eq] at h
  exact ⟨h.1.1, h.1.2, h.2⟩
theorem Dr.Fine.place {d : Dr} (h : d.Fine) : ∀ p ∈ d.places, p.good = true := by
  have := h.places
  simp only [placesRight, Bool.and_eq_true] at this
  exact places_good _ _ this.1.2
structure Jb.Fine (j : Jb) : Prop where
  kind : 0 ≤ j.kind ∧ j.kind ≤ 5
  step : 0 ≤ j.step ∧ j.step ≤ 7
  cell : 0 ≤ j.cell ∧ j.cell ≤ 3
  to_ : 0 ≤ j.to ∧ j.to ≤ 3
  cellK : j.kind = 1 ∨ j.kind = 2 ∨ j.kind = 3 ∨ j.kind = 5 → 1 ≤ j.cell
  toK : j.kind = 1 → 1 ≤ j.to
  memK : j.kind = 5 → ∃ m r, j.members = m :: r
theorem job_fine {j : Jb} (h : j.right = true) : j.Fine := by
  simp only [Jb.right, Jb.nums, rng, Bool.and_eq_true, decide_eq_true_eq] at h
  obtain ⟨⟨⟨⟨⟨⟨k1, k2⟩, n⟩, w⟩, t⟩, ⟨c, o⟩, m⟩, r⟩ := h
  refine ⟨k1, k2, c, o, fun hk => ?_, fun hk => ?_, fun hk => ?_⟩
  · rcases hk with hk | hk | hk | hk <;> rw [hk] at r <;> simp at r <;> omega
  · rw [hk] at r
    simp at r; omega
  · rw [hk] at r
    simp at r
    cases hm : j.members with
    | nil => rw [hm] at r; simp at r
    | cons a b => exact ⟨a, b, rfl⟩
def Dr.view (d : Dr) (c : Int) : Int := ((d.cells[(c - 1).toNat]?).map Inf.view).getD 0
end Go.Proofs.YtefoleocbhkobaaGreatDoor
namespace Go.Proofs.YtefoleocbhkobaaGreatDoor
open Go Go.Ev
set_option linter.unusedSectionVars false
set_option linter.unusedSimpArgs false
set_option linter.unusedVariables false
def oneOf (d : Dr) : List Ms :=
  let j := d.job
  let here : Ms := { to_ := d.lead j.cell, n := j.cell, shard := j.shard, move := j.id }
  let there : Ms := { to_ := d.lead j.to, n := j.to, shard := j.shard, move := j.id }
  if j.step = 7 then [{ here with kind := 22 }]
  else if j.kind = 2 then (if j.step = 1 then [{ here with kind := 26, epoch := j.epoch, of_ := j.id, text := j.key }] else [])
  else if j.kind = 3 then (if j.step = 1 then [{ here with kind := 28, epoch := j.epoch, of_ := j.other }] else [])
  else if j.step = 1 then [{ here with kind := 12, epoch := j.epoch }]
  else if j.step = 2 then [{ here with kind := 14, of_ := j.parts.length }]
  else if j.step = 3 then [{ there with kind := 16, shard := 0, text := j.parts.flatten }]
  else if j.step = 4 then [{ there with kind := 18, epoch := j.id }]
  else if j.step = 5 then [{ here with kind := 20 }]
  else if j.step = 6 then [{ there with kind := 24 }]
  else []
set_option maxRecDepth 100000 in
set_option maxHeartbeats 16000000 in
theorem one_ok {N : Nat} (d : Dr) (hled : d.led) (hj : d.job.Fine) (hk : d.job.kind = 1 ∨ d.job.kind = 2 ∨ d.job.kind = 3) (hp1 : d.job.parts.length ≤ 140737488355328) (hp2 : d.job.parts.flatten.length ≤ 140737488355328) (hN : 10 ≤ N) :
    run tab prim glob N 97 [.agg d.cellsL] = some (.ro ((oneOf d).map Ms.cells), []) := by
  obtain ⟨n, rfl⟩ : ∃ n, N = n + 1 := ⟨N - 1, by omega⟩
  rw [enters (fn := c97) rfl]
  have r1 := lead_ok (N := n) d hled d.job.cell (hj.cellK (by omega)) hj.cell.2 (by omega)
  have r3 : run tab prim glob n 125 [.ro (d.job.parts.map fun s => [.str s]), .str []] = some (.str d.job.parts.flatten, []) := by
    obtain ⟨k, rfl⟩ : ∃ k, n = k + 1 := ⟨n - 1, by omega⟩
    exact prim_join _ hp1 hp2
  rcases hk with hk | hk | hk
  · have r2 := lead_ok (N := n) d hled d.job.to (hj.toK hk) hj.to_.2 (by omega)
    have hs : d.job.step = 0 ∨ d.job.step = 1 ∨ d.job.step = 2 ∨ d.job.step = 3 ∨ d.job.step = 4 ∨ d.job.step = 5 ∨ d.job.step = 6 ∨ d.job.step = 7 := by have := hj.step; omega
    rcases hs with hs | hs | hs | hs | hs | hs | hs | hs <;> simp only [c97, o97_1, o97_2, o97_3, o97_4, o97_5, o97_6, o97_7, o97_8, o97_9, o97_10, o97_11, o97_12, o97_13, o97_14, o97_15, o97_16, o97_17, o97_18, o97_19, o97_20, o97_21, o97_22, o97_23, o97_24, o97_25, o97_26, o97_27, go_sem, Nat.reduceAdd, Nat.reduceMul, reduceIte, Nat.reduceLeDiff, Int.reduceLE, Int.reduceLT, Int.reduceToNat, hk, hs, r1, r2, r3, oneOf, Ms.cells, List.length_map, Int.reduceEq]
  · by_cases h7 : d.job.step = 7
    · simp only [c97, o97_1, o97_2, o97_3, o97_4, o97_5, o97_6, o97_7, o97_8, o97_9, o97_10, o97_11, o97_12, o97_13, o97_14, o97_15, o97_16, o97_17, o97_18, o97_19, o97_20, o97_21, o97_22, o97_23, o97_24, o97_25, o97_26, o97_27, go_sem, Nat.reduceAdd, Nat.reduceMul, reduceIte, Nat.reduceLeDiff, Int.reduceLE, Int.reduceLT, Int.reduceToNat, hk, h7, r1, oneOf, Ms.cells, Int.reduceEq]
    · by_cases h1 : d.job.step = 1
      · simp only [c97, o97_1, o97_2, o97_3, o97_4, o97_5, o97_6, o97_7, o97_8, o97_9, o97_10, o97_11, o97_12, o97_13, o97_14, o97_15, o97_16, o97_17, o97_18, o97_19, o97_20, o97_21, o97_22, o97_23, o97_24, o97_25, o97_26, o97_27, go_sem, Nat.reduceAdd, Nat.reduceMul, reduceIte, Nat.reduceLeDiff, Int.reduceLE, Int.reduceLT, Int.reduceToNat, hk, h1, r1, oneOf, Ms.cells, Int.reduceEq]
      · simp only [c97, o97_1, o97_2, o97_3, o97_4, o97_5, o97_6, o97_7, o97_8, o97_9, o97_10, o97_11, o97_12, o97_13, o97_14, o97_15, o97_16, o97_17, o97_18, o97_19, o97_20, o97_21, o97_22, o97_23, o97_24, o97_25, o97_26, o97_27, go_sem, Nat.reduceAdd, Nat.reduceMul, reduceIte, Nat.reduceLeDiff, Int.reduceLE, Int.reduceLT, Int.reduceToNat, hk, h1, h7, r1, oneOf, Ms.cells, Int.reduceEq]
  · by_cases h7 : d.job.step = 7
    · simp only [c97, o97_1, o97_2, o97_3, o97_4, o97_5, o97_6, o97_7, o97_8, o97_9, o97_10, o97_11, o97_12, o97_13, o97_14, o97_15, o97_16, o97_17, o97_18, o97_19, o97_20, o97_21, o97_22, o97_23, o97_24, o97_25, o97_26, o97_27, go_sem, Nat.reduceAdd, Nat.reduceMul, reduceIte, Nat.reduceLeDiff, Int.reduceLE, Int.reduceLT, Int.reduceToNat, hk, h7, r1, oneOf, Ms.cells, Int.reduceEq]
    · by_cases h1 : d.job.step = 1
      · simp only [c97, o97_1, o97_2, o97_3, o97_4, o97_5, o97_6, o97_7, o97_8, o97_9, o97_10, o97_11, o97_12, o97_13, o97_14, o97_15, o97_16, o97_17, o97_18, o97_19, o97_20, o97_21, o97_22, o97_23, o97_24, o97_25, o97_26, o97_27, go_sem, Nat.reduceAdd, Nat.reduceMul, reduceIte, Nat.reduceLeDiff, Int.reduceLE, Int.reduceLT, Int.reduceToNat, hk, h1, r1, oneOf, Ms.cells, Int.reduceEq]
      · simp only [c97, o97_1, o97_2, o97_3, o97_4, o97_5, o97_6, o97_7, o97_8, o97_9, o97_10, o97_11, o97_12, o97_13, o97_14, o97_15, o97_16, o97_17, o97_18, o97_19, o97_20, o97_21, o97_22, o97_23, o97_24, o97_25, o97_26, o97_27, go_sem, Nat.reduceAdd, Nat.reduceMul, reduceIte, Nat.reduceLeDiff, Int.reduceLE, Int.reduceLT, Int.reduceToNat, hk, h1, h7, r1, oneOf, Ms.cells, Int.reduceEq]
def dueOf (d : Dr) : List Ms :=
  if d.job.kind = 4 then holdsOf d
  else if d.job.kind = 5 then (if d.job.step = 1 then [{ kind := 33, to_ := d.job.members.headD 0, n := d.job.cell, epoch := d.view d.job.cell + 1, members := d.job.members }] else [])
  else if d.job.kind = 0 then [] else oneOf d
set_option maxRecDepth 100000 in
set_option maxHeartbeats 16000000 in
theorem due_ok {N : Nat} (d : Dr) (hf : d.Fine) (hl : d.job.wait.length ≤ 2000000) (hm : d.job.members.length ≤ 2000000) (hp1 : d.job.parts.length ≤ 140737488355328) (hp2 : d.job.parts.flatten.length ≤ 140737488355328)
    (hof : ∀ id, run tab prim glob (N - 2) 47 [.ro (d.places.map Pl.cells), .int .i64 id] = some (ofRes (ofPl d.places id), [])) (hN : d.job.wait.length + 20 ≤ N) :
    run tab prim glob N 55 [.agg d.cellsL] = some (.ro ((dueOf d).map Ms.cells), []) := by
  obtain ⟨n, rfl⟩ : ∃ n, N = n + 1 := ⟨N - 1, by omega⟩
  rw [enters (fn := c55) rfl]
  have hj := job_fine hf.job
  have hled := hf.led
  have r1 := holds_ok (N := n) d hl hled (fun p hp => (good_fine (hf.place p hp)).2.2) hof (by omega)
  have hk : d.job.kind = 0 ∨ d.job.kind = 1 ∨ d.job.kind = 2 ∨ d.job.kind = 3 ∨ d.job.kind = 4 ∨ d.job.kind = 5 := by have := hj.kind; omega
  rcases hk with hk | hk | hk | hk | hk | hk
  · simp only [c55, o55_1, o55_2, o55_3, o55_4, o55_5, o55_6, o55_7, o55_8, o55_9, o55_10, o55_11, o55_12, o55_13, o55_14, go_sem, Nat.reduceAdd, Nat.reduceMul, reduceIte, Nat.reduceLeDiff, Int.reduceLE, Int.reduceLT, Int.reduceToNat, hk, dueOf, Int.reduceEq]
  · have r2 := one_ok (N := n) d hled hj (by omega) hp1 hp2 (by omega)
    simp only [c55, o55_1, o55_2, o55_3, o55_4, o55_5, o55_6, o55_7, o55_8, o55_9, o55_10, o55_11, o55_12, o55_13, o55_14, go_sem, Nat.reduceAdd, Nat.reduceMul, reduceIte, Nat.reduceLeDiff, Int.reduceLE, Int.reduceLT, Int.reduceToNat, hk, r2, dueOf, Int.reduceEq]
  · have r2 := one_ok (N := n) d hled hj (by omega) hp1 hp2 (by omega)
    simp only [c55, o55_1, o55_2, o55_3, o55_4, o55_5, o55_6, o55_7, o55_8, o55_9, o55_10, o55_11, o55_12, o55_13, o55_14, go_sem, Nat.reduceAdd, Nat.reduceMul, reduceIte, Nat.reduceLeDiff, Int.reduceLE, Int.reduceLT, Int.reduceToNat, hk, r2, dueOf, Int.reduceEq]
  · have r2 := one_ok (N := n) d hled hj (by omega) hp1 hp2 (by omega)
    simp only [c55, o55_1, o55_2, o55_3, o55_4, o55_5, o55_6, o55_7, o55_8, o55_9, o55_10, o55_11, o55_12, o55_13, o55_14, go_sem, Nat.reduceAdd, Nat.reduceMul, reduceIte, Nat.reduceLeDiff, Int.reduceLE, Int.reduceLT, Int.reduceToNat, hk, r2, dueOf, Int.reduceEq]
  · simp only [c55, o55_1, o55_2, o55_3, o55_4, o55_5, o55_6, o55_7, o55_8, o55_9, o55_10, o55_11, o55_12, o55_13, o55_14, go_sem, Nat.reduceAdd, Nat.reduceMul, reduceIte, Nat.reduceLeDiff, Int.reduceLE, Int.reduceLT, Int.reduceToNat, hk, r1, dueOf, Int.reduceEq]
  · by_cases h1 : d.job.step = 1
    · obtain ⟨m, r, hme⟩ := hj.memK hk
      obtain ⟨x, s, hx, _, hxr⟩ := hf.cell d.job.cell (hj.cellK (by omega)) hj.cell.2
      have hv := cell_fine hxr
      have e1 : IntKind.i64.wrap (d.job.cell - 1) = d.job.cell - 1 := IntWalk.i64_in _ (by have := hj.cell; omega)
      have e2 : 0 ≤ d.job.cell - 1 := by have := hj.cellK (by omega); omega
      have e3 : (d.cells.map infRow)[(d.job.cell - 1).toNat]? = some [.int .i64 x.view, .ro (x.members.map rowI), .bool x.whole] := by rw [List.getElem?_map, hx]; rfl
      have e4 : IntKind.i64.wrap (x.view + 1) = x.view + 1 := IntWalk.i64_in _ (by omega)
      have e5 : d.view d.job.cell = x.view := by unfold Dr.view; rw [hx]; rfl
      have r2 := clone_ok (N := n) (by omega) (m :: r) (by rw [← hme]; omega)
      have h3 := take_map (m :: r) rowI
      simp only [List.map_cons, List.length_cons, rowI] at r2 h3
      simp only [c55, o55_1, o55_2, o55_3, o55_4, o55_5, o55_6, o55_7, o55_8, o55_9, o55_10, o55_11, o55_12, o55_13, o55_14, go_sem, Nat.reduceAdd, Nat.reduceMul, reduceIte, Nat.reduceLeDiff, Int.reduceLE, Int.reduceLT, Int.reduceToNat, hk, h1, hme, e1, e2, e3, e4, e5, r2, h3, dueOf, Ms.cells, rowI, Int.reduceEq, List.length_map, Nat.beq_refl, List.headD_cons]
    · simp only [c55, o55_1, o55_2, o55_3, o55_4, o55_5, o55_6, o55_7, o55_8, o55_9, o55_10, o55_11, o55_12, o55_13, o55_14, go_sem, Nat.reduceAdd, Nat.reduceMul, reduceIte, Nat.reduceLeDiff, Int.reduceLE, Int.reduceLT, Int.reduceToNat, hk, h1, dueOf, Int.reduceEq]
end Go.Proofs.YtefoleocbhkobaaGreatDoor
namespace Go.Proofs.YtefoleocbhkobaaGreatDoor
open Go Go.Ev
set_option linter.unusedSectionVars false
set_option linter.unusedSimpArgs false
set_option linter.unusedVariables false
set_option maxHeartbeats 4000000 in
theorem loop60a {n : Nat} (d : Dr) (hl : d.job.wait.length ≤ 2000000) (hpl : d.places.length ≤ 100000) (hn : d.places.length + 10 ≤ n) (hled : d.led) (hp3 : ∀ p ∈ d.places, 1 ≤ p.cell ∧ p.cell ≤ 3) (hst : d.job.step = 1 ∨ d.job.step = 2) :
    ∀ (rest pre : List Int) (acc : List Ms) (m : Nat) (env : Env) (H : Heap), d.job.wait = pre ++ rest → acc.length ≤ pre.length → rest.length + 1 ≤ m →
    evGh (.keep [1, 3, 4, 5] [100001, 100003, 300004]) env H = some ([(1, .ptr 100001 0), (3, .ptr 100003 0), (4, .own 300004 0 acc.length acc.length), (5, .int .i64 pre.length)],
      [(100001, .box d.cellsL), (100003, .box d.job.cells), (300004, .arr 36 (acc.map Ms.cells))]) →
    Ends (iter m (evCode ⟨run tab prim glob n, glob⟩ (iter n) b60_1) env H) (fun ex e h => ex = .exit 0 ∧ getT e 4 = .own 300004 0 (acc ++ rest.flatMap (holdOf d)).length (acc ++ rest.flatMap (holdOf d)).length ∧
      h = [(100001, .box d.cellsL), (100003, .box d.job.cells), (300004, .arr 36 ((acc ++ rest.flatMap (holdOf d)).map Ms.cells))])
  | [], pre, acc, m + 1, env, H, hp, ha, hm, hk => by
    have e0 : pre.length = d.job.wait.length := by rw [hp]; simp
    rw [iter_step]
    generalize iter m (evCode ⟨run tab prim glob n, glob⟩ (iter n) b60_1) = g
    simp only [b60_1, ob60_1_1, ob60_1_2, ob60_1_3, ob60_1_4, ob60_1_5, ob60_1_6, ob60_1_7, ob60_1_8, ob60_1_9, hk, go_sem, Nat.reduceAdd, Nat.reduceMul, reduceIte, Nat.reduceLeDiff, Int.reduceLE, Int.reduceLT, Int.reduceToNat, e0, Int.lt_irrefl, afterIt, List.flatMap_nil, List.length_map]
    exact Ends.of ⟨rfl, rfl, rfl⟩
  | x :: rest, pre, acc, m + 1, env, H, hp, ha, hm, hk => by
    have e0 : pre.length < d.job.wait.length := by rw [hp]; simp
    have e1 : (pre.length : Int) < (d.job.wait.length : Int) := by omega
    have e2 : (0 : Int) ≤ (pre.length : Int) := by omega
    have e3 := at_pre rowI hp
    have e4 : IntKind.i64.wrap ((pre.length : Int) + 1) = ((pre.length + 1 : Nat) : Int) := cast_add (by omega)
    have e6 : ¬ acc.length + 1 ≤ acc.length := by omega
    have e7 : (acc.length + 1) * 392 ≤ 140737488355328 := by omega
    have r1 := at15_ok (N := n) d.places (by omega) x (by omega)
    have ih := loop60a (n := n) d hl hpl hn hled hp3 hst rest (pre ++ [x]) (acc ++ holdOf d x) m
    have fin : (x :: rest).flatMap (holdOf d) = holdOf d x ++ rest.flatMap (holdOf d) := rfl
    rw [iter_step, fin, ← List.append_assoc]
    generalize iter m (evCode ⟨run tab prim glob n, glob⟩ (iter n) b60_1) = g at ih ⊢
    generalize acc ++ holdOf d x ++ rest.flatMap (holdOf d) = R at ih ⊢
    rcases idx_find (isId x) d.places 0 with ⟨ho, h2⟩ | ⟨p, k, ho, h2, h3⟩
    · have ho : ofPl d.places x = none := ho
      have e8 : holdOf d x = [] := by unfold holdOf; rw [ho]
      rw [h2] at r1
      have n1 : ((-1 : Int) < 0) := by decide
      rw [e8, List.append_nil] at ih
      simp only [len1, rowI] at ih e3
      simp only [b60_1, ob60_1_1, ob60_1_2, ob60_1_3, ob60_1_4, ob60_1_5, ob60_1_6, ob60_1_7, ob60_1_8, ob60_1_9, hk, go_sem, Nat.reduceAdd, Nat.reduceMul, reduceIte, Nat.reduceLeDiff, Int.reduceLE, Int.reduceLT, Int.reduceToNat, e1, e2, e3, e4, e8, r1, n1, List.length_map, Nat.beq_refl, afterIt, rowI]
      exact ih _ _ (by rw [hp]; simp) (by omega) (by simp at hm; omega) rfl
    · have ho : ofPl d.places x = some p := ho
      rw [h2, Nat.zero_add] at r1
      have n1 : ¬ ((k : Int) < 0) := by omega
      have n2 : (0 : Int) ≤ (k : Int) := by omega
      have n3 : (d.places.map Pl.cells)[k]? = some p.cells := by rw [List.getElem?_map, h3]; rfl
      obtain ⟨hm1, hid⟩ := find_mem ho
      obtain ⟨c1, c3⟩ := hp3 p hm1
      have r2 := lead19_ok (N := n) d hled p.cell c1 c3 (by omega)
      simp only [Pl.cells] at n3
      rcases hst with h1 | h1
      · have e8 : holdOf d x = [{ kind := 8, to_ := d.lead p.cell, n := p.cell, shard := x, epoch := p.epoch, lease := d.job.id }] := by unfold holdOf; rw [ho]; simp only [h1, if_true]
        rw [e8] at ih
        simp only [len1, List.map_append, List.map_cons, List.map_nil, rowI, Ms.cells, Nat.zero_add] at ih e3
        simp only [b60_1, ob60_1_1, ob60_1_2, ob60_1_3, ob60_1_4, ob60_1_5, ob60_1_6, ob60_1_7, ob60_1_8, ob60_1_9, hk, go_sem, Nat.reduceAdd, Nat.reduceMul, reduceIte, Nat.reduceLeDiff, Int.reduceLE, Int.reduceLT, Int.reduceToNat, e1, e2, e3, e4, e6, e7, r1, r2, h1, n1, n2, n3, hid, List.length_map, Nat.beq_refl, afterIt, rowI, Int.reduceEq]
        exact ih _ _ (by rw [hp]; simp) (by omega) (by simp at hm; omega) rfl
      · have e8 : holdOf d x = [{ kind := 10, to_ := d.lead p.cell, n := p.cell, shard := x, lease := d.job.id, tm := d.job.tm }] := by unfold holdOf; rw [ho]; simp only [h1, if_true]; rfl
        rw [e8] at ih
        simp only [len1, List.map_append, List.map_cons, List.map_nil, rowI, Ms.cells, Nat.zero_add] at ih e3
        simp only [b60_1, ob60_1_1, ob60_1_2, ob60_1_3, ob60_1_4, ob60_1_5, ob60_1_6, ob60_1_7, ob60_1_8, ob60_1_9, hk, go_sem, Nat.reduceAdd, Nat.reduceMul, reduceIte, Nat.reduceLeDiff, Int.reduceLE, Int.reduceLT, Int.reduceToNat, e1, e2, e3, e4, e6, e7, r1, r2, h1, n1, n2, n3, hid, St.cells, List.length_map, Nat.beq_refl, afterIt, rowI, Int.reduceEq]
        exact ih _ _ (by rw [hp]; simp) (by omega) (by simp at hm; omega) rfl
def tb (a b c : Int) (t : List UInt8) : List PV := [.int .i64 16, .int .i64 0, .int .i64 a, .int .i64 0, .int .i64 0, .int .i64 b, .int .i64 0, .int .i64 c, .int .i64 0, .int .i64 0, .int .i64 0, .int .i64 0, .str t,
  .int .i64 0, .int .i64 0, .int .i64 0, .str [], .str [], .bool false, .str [], .int .i64 0, .int .i64 0, .int .i64 0, .str [], .int .i64 0, .int .i64 0, .int .i64 0, .int .i64 0, .int .i64 0, .bool false, .str [], .nul, .str [], .bool false, .nul, .nul]
def hb (a s b c : Int) : List PV := [.int .i64 0, .int .i64 0, .int .i64 a, .int .i64 s, .int .i64 0, .int .i64 b, .int .i64 0, .int .i64 c, .int .i64 0, .int .i64 0, .int .i64 0, .int .i64 0, .str [],
  .int .i64 0, .int .i64 0, .int .i64 0, .str [], .str [], .bool false, .str [], .int .i64 0, .int .i64 0, .int .i64 0, .str [], .int .i64 0, .int .i64 0, .int .i64 0, .int .i64 0, .int .i64 0, .bool false, .str [], .nul, .str [], .bool false, .nul, .nul]
theorem loop60b {n : Nat} (d : Dr) (a' s' b' c' : Int) (a b c : Int) (hl : d.job.parts.length ≤ 1000000000) (hp2 : d.job.parts.flatten.length ≤ 140737488355328) :
    ∀ (rest pre : List (List UInt8)) (m : Nat) (env : Env) (H : Heap), d.job.parts = pre ++ rest → rest.length + 1 ≤ m →
    evGh (.keep [3, 4, 10, 11] [100001, 100003, 100007, 100008, 100009, 100010, 100072, 100073, 100102, 100103, 100129, 100130, 100151, 100152, 100170, 100171, 300004]) env H = some ([(3, .ptr 100003 0), (4, .nul), (10, .ptr 100010 0), (11, .int .i64 pre.length)],
      [(100001, .box d.cellsL), (100003, .box d.job.cells), (100009, .box (hb a' s' b' c')), (100010, .box (tb a b c pre.flatten))]) →
    Ends (iter m (evCode ⟨run tab prim glob n, glob⟩ (iter n) b60_2) env H) (fun ex e h => ex = .exit 3 ∧ getT e 4 = .nul ∧ getT e 10 = .ptr 100010 0 ∧
      h = [(100001, .box d.cellsL), (100003, .box d.job.cells), (100009, .box (hb a' s' b' c')), (100010, .box (tb a b c d.job.parts.flatten))])
  | [], pre, m + 1, env, H, hp, hm, hk => by
    have e0 : pre = d.job.parts := by rw [hp]; simp
    rw [e0] at hk
    rw [iter_step]
    generalize iter m (evCode ⟨run tab prim glob n, glob⟩ (iter n) b60_2) = g
    simp only [b60_2, ob60_2_1, ob60_2_2, ob60_2_3, hk, go_sem, Nat.reduceAdd, Nat.reduceMul, reduceIte, Nat.reduceLeDiff, Int.reduceLE, Int.reduceLT, Int.reduceToNat, Int.lt_irrefl, afterIt, List.length_map]
    exact Ends.of ⟨rfl, rfl, rfl, rfl⟩
  | x :: rest, pre, m + 1, env, H, hp, hm, hk => by
    have e0 : pre.length < d.job.parts.length := by rw [hp]; simp
    have e1 : (pre.length : Int) < (d.job.parts.length : Int) := by omega
    have e2 : (0 : Int) ≤ (pre.length : Int) := by omega
    have e3 := at_pre (fun s => [PV.str s]) hp
    have e4 : IntKind.i64.wrap ((pre.length : Int) + 1) = ((pre.length + 1 : Nat) : Int) := cast_add (by omega)
    have e5 : pre.flatten.length + x.length ≤ 9223372036854775807 := by
      rw [hp] at hp2
      simp at hp2
      simp
      omega
    have ih := loop60b (n := n) d a' s' b' c' a b c hl hp2 rest (pre ++ [x]) m
    rw [iter_step]
    generalize iter m (evCode ⟨run tab prim glob n, glob⟩ (iter n) b60_2) = g at ih ⊢
    simp only [List.length_append, List.length_cons, List.length_nil, List.flatten_append, List.flatten_cons, List.flatten_nil, List.append_nil, Nat.zero_add, tb] at hk ih e3 ⊢
    simp only [b60_2, ob60_2_1, ob60_2_2, ob60_2_3, hk, go_sem, Nat.reduceAdd, Nat.reduceMul, reduceIte, Nat.reduceLeDiff, Int.reduceLE, Int.reduceLT, Int.reduceToNat, e1, e2, e3, e4, e5, List.length_map, Nat.beq_refl, afterIt]
    exact ih _ _ (by rw [hp]; simp) (by simp at hm; omega) rfl
theorem c60_at : ∃ R, c60 = ⟨1, [.t 2], [], [], .seq (.reg o60_1) (.seq (.reg o60_2) (.seq (.reg o60_3) (.seq (.seq (.reg o60_4) (.cond (.t 26) (.seq (.seq (.reg o60_5) (.block 0 (.seq (.gh (.room 4 300004 36)) (.loop b60_1)))) (.seq (.reg o60_6) (.ret))) (.skip))) R)))⟩ := ⟨_, rfl⟩
theorem holds_none {d : Dr} (h1 : ¬ d.job.step = 1) (h2 : ¬ d.job.step = 2) : holdsOf d = [] := by
  unfold holdsOf
  rw [List.flatMap_eq_nil_iff]
  intro x _
  unfold holdOf
  split
  · rfl
  · rw [if_neg h1, if_neg h2]
set_option maxRecDepth 100000 in
set_option maxHeartbeats 16000000 in
theorem due19_ok {N : Nat} (d : Dr) (hf : d.Fine) (hl : d.job.wait.length ≤ 2000000) (hm : d.job.members.length ≤ 2000000) (hpl : d.places.length ≤ 100000) (hp1 : d.job.parts.length ≤ 1000000000) (hp2 : d.job.parts.flatten.length ≤ 140737488355328)
    (hN : d.job.wait.length + d.job.parts.length + d.places.length + 40 ≤ N) : run tab prim glob N 60 [.agg d.cellsL] = some (.ro ((dueOf d).map Ms.cells), []) := by
  obtain ⟨n, rfl⟩ : ∃ n, N = n + 1 := ⟨N - 1, by omega⟩
  rw [enters (fn := c60) rfl]
  have hj := job_fine hf.job
  have hled := hf.led
  have hp3 : ∀ p ∈ d.places, 1 ≤ p.cell ∧ p.cell ≤ 3 := fun p hp => (good_fine (hf.place p hp)).2.2
  have hk : d.job.kind = 0 ∨ d.job.kind = 1 ∨ d.job.kind = 2 ∨ d.job.kind = 3 ∨ d.job.kind = 4 ∨ d.job.kind = 5 := by have := hj.kind; omega
  rcases hk with hk | hk | hk | hk | hk | hk
  · simp only [c60, o60_1, o60_2, o60_3, o60_4, o60_5, o60_6, o60_7, o60_8, o60_9, o60_10, o60_11, o60_12, o60_13, o60_14, o60_15, o60_16, o60_17, o60_18, o60_19, o60_20, o60_21, o60_22, o60_23, o60_24, o60_25, o60_26, o60_27, o60_28, o60_29, o60_30, o60_31, o60_32, o60_33, o60_34, o60_35, o60_36, o60_37, o60_38, o60_39, o60_40, o60_41, o60_42, o60_43, o60_44, go_sem, Nat.reduceAdd, Nat.reduceMul, reduceIte, Nat.reduceLeDiff, Int.reduceLE, Int.reduceLT, Int.reduceToNat, hk, dueOf, Int.reduceEq]
  · have r1 := lead19_ok (N := n) d hled d.job.cell (hj.cellK (by omega)) hj.cell.2 (by omega)
    have r2 := lead19_ok (N := n) d hled d.job.to (hj.toK hk) hj.to_.2 (by omega)
    have hs : d.job.step = 0 ∨ d.job.step = 1 ∨ d.job.step = 2 ∨ d.job.step = 4 ∨ d.job.step = 5 ∨ d.job.step = 6 ∨ d.job.step = 7 ∨ d.job.step = 3 := by have := hj.step; omega
    rcases hs with hs | hs | hs | hs | hs | hs | hs | hs
    · simp only [c60, o60_1, o60_2, o60_3, o60_4, o60_5, o60_6, o60_7, o60_8, o60_9, o60_10, o60_11, o60_12, o60_13, o60_14, o60_15, o60_16, o60_17, o60_18, o60_19, o60_20, o60_21, o60_22, o60_23, o60_24, o60_25, o60_26, o60_27, o60_28, o60_29, o60_30, o60_31, o60_32, o60_33, o60_34, o60_35, o60_36, o60_37, o60_38, o60_39, o60_40, o60_41, o60_42, o60_43, o60_44, go_sem, Nat.reduceAdd, Nat.reduceMul, reduceIte, Nat.reduceLeDiff, Int.reduceLE, Int.reduceLT, Int.reduceToNat, hk, hs, r1, r2, dueOf, oneOf, Ms.cells, List.length_map, Int.reduceEq]
    · simp only [c60, o60_1, o60_2, o60_3, o60_4, o60_5, o60_6, o60_7, o60_8, o60_9, o60_10, o60_11, o60_12, o60_13, o60_14, o60_15, o60_16, o60_17, o60_18, o60_19, o60_20, o60_21, o60_22, o60_23, o60_24, o60_25, o60_26, o60_27, o60_28, o60_29, o60_30, o60_31, o60_32, o60_33, o60_34, o60_35, o60_36, o60_37, o60_38, o60_39, o60_40, o60_41, o60_42, o60_43, o60_44, go_sem, Nat.reduceAdd, Nat.reduceMul, reduceIte, Nat.reduceLeDiff, Int.reduceLE, Int.reduceLT, Int.reduceToNat, hk, hs, r1, r2, dueOf, oneOf, Ms.cells, List.length_map, Int.reduceEq]
    · simp only [c60, o60_1, o60_2, o60_3, o60_4, o60_5, o60_6, o60_7, o60_8, o60_9, o60_10, o60_11, o60_12, o60_13, o60_14, o60_15, o60_16, o60_17, o60_18, o60_19, o60_20, o60_21, o60_22, o60_23, o60_24, o60_25, o60_26, o60_27, o60_28, o60_29, o60_30, o60_31, o60_32, o60_33, o60_34, o60_35, o60_36, o60_37, o60_38, o60_39, o60_40, o60_41, o60_42, o60_43, o60_44, go_sem, Nat.reduceAdd, Nat.reduceMul, reduceIte, Nat.reduceLeDiff, Int.reduceLE, Int.reduceLT, Int.reduceToNat, hk, hs, r1, r2, dueOf, oneOf, Ms.cells, List.length_map, Int.reduceEq]
    · simp only [c60, o60_1, o60_2, o60_3, o60_4, o60_5, o60_6, o60_7, o60_8, o60_9, o60_10, o60_11, o60_12, o60_13, o60_14, o60_15, o60_16, o60_17, o60_18, o60_19, o60_20, o60_21, o60_22, o60_23, o60_24, o60_25, o60_26, o60_27, o60_28, o60_29, o60_30, o60_31, o60_32, o60_33, o60_34, o60_35, o60_36, o60_37, o60_38, o60_39, o60_40, o60_41, o60_42, o60_43, o60_44, go_sem, Nat.reduceAdd, Nat.reduceMul, reduceIte, Nat.reduceLeDiff, Int.reduceLE, Int.reduceLT, Int.reduceToNat, hk, hs, r1, r2, dueOf, oneOf, Ms.cells, List.length_map, Int.reduceEq]
    · simp only [c60, o60_1, o60_2, o60_3, o60_4, o60_5, o60_6, o60_7, o60_8, o60_9, o60_10, o60_11, o60_12, o60_13, o60_14, o60_15, o60_16, o60_17, o60_18, o60_19, o60_20, o60_21, o60_22, o60_23, o60_24, o60_25, o60_26, o60_27, o60_28, o60_29, o60_30, o60_31, o60_32, o60_33, o60_34, o60_35, o60_36, o60_37, o60_38, o60_39, o60_40, o60_41, o60_42, o60_43, o60_44, go_sem, Nat.reduceAdd, Nat.reduceMul, reduceIte, Nat.reduceLeDiff, Int.reduceLE, Int.reduceLT, Int.reduceToNat, hk, hs, r1, r2, dueOf, oneOf, Ms.cells, List.length_map, Int.reduceEq]
    · simp only [c60, o60_1, o60_2, o60_3, o60_4, o60_5, o60_6, o60_7, o60_8, o60_9, o60_10, o60_11, o60_12, o60_13, o60_14, o60_15, o60_16, o60_17, o60_18, o60_19, o60_20, o60_21, o60_22, o60_23, o60_24, o60_25, o60_26, o60_27, o60_28, o60_29, o60_30, o60_31, o60_32, o60_33, o60_34, o60_35, o60_36, o60_37, o60_38, o60_39, o60_40, o60_41, o60_42, o60_43, o60_44, go_sem, Nat.reduceAdd, Nat.reduceMul, reduceIte, Nat.reduceLeDiff, Int.reduceLE, Int.reduceLT, Int.reduceToNat, hk, hs, r1, r2, dueOf, oneOf, Ms.cells, List.length_map, Int.reduceEq]
    · simp only [c60, o60_1, o60_2, o60_3, o60_4, o60_5, o60_6, o60_7, o60_8, o60_9, o60_10, o60_11, o60_12, o60_13, o60_14, o60_15, o60_16, o60_17, o60_18, o60_19, o60_20, o60_21, o60_22, o60_23, o60_24, o60_25, o60_26, o60_27, o60_28, o60_29, o60_30, o60_31, o60_32, o60_33, o60_34, o60_35, o60_36, o60_37, o60_38, o60_39, o60_40, o60_41, o60_42, o60_43, o60_44, go_sem, Nat.reduceAdd, Nat.reduceMul, reduceIte, Nat.reduceLeDiff, Int.reduceLE, Int.reduceLT, Int.reduceToNat, hk, hs, r1, r2, dueOf, oneOf, Ms.cells, List.length_map, Int.reduceEq]
    · have hL := fun env H h => loop60b (n := n) d (d.lead d.job.cell) d.job.shard d.job.id d.job.cell (d.lead d.job.to) d.job.id d.job.to hp1 hp2 d.job.parts [] n env H rfl (by omega) h
      generalize hg : iter n (evCode ⟨run tab prim glob n, glob⟩ (iter n) b60_2) = g at hL
      simp only [c60, o60_1, o60_2, o60_3, o60_4, o60_5, o60_6, o60_7, o60_8, o60_9, o60_10, o60_11, o60_12, o60_13, o60_14, o60_15, o60_16, o60_17, o60_18, o60_19, o60_20, o60_21, o60_22, o60_23, o60_24, o60_25, o60_26, o60_27, o60_28, o60_29, o60_30, o60_31, o60_32, o60_33, o60_34, o60_35, o60_36, o60_37, o60_38, o60_39, o60_40, o60_41, o60_42, o60_43, o60_44, go_sem, Nat.reduceAdd, Nat.reduceMul, reduceIte, Nat.reduceLeDiff, Int.reduceLE, Int.reduceLT, Int.reduceToNat, hk, hs, r1, r2, dueOf, oneOf, Ms.cells, List.length_map, Int.reduceEq, hg]
      generalize hE : g _ _ = o
      obtain ⟨ex, env', H', rfl, rfl, h2, h3, rfl⟩ := Ends.at hL hE (by simp only [go_sem, Nat.reduceAdd, Nat.reduceMul, reduceIte, Nat.reduceLeDiff, Int.reduceLE, Int.reduceLT, Int.reduceToNat, mentL, ment, ment1, evGh, keepE, keepH]; rfl)
      simp only [go_sem, Nat.reduceAdd, Nat.reduceMul, reduceIte, Nat.reduceLeDiff, Int.reduceLE, Int.reduceLT, Int.reduceToNat, h2, h3, tb]
  · have r1 := lead19_ok (N := n) d hled d.job.cell (hj.cellK (by omega)) hj.cell.2 (by omega)
    by_cases h7 : d.job.step = 7
    · simp only [c60, o60_1, o60_2, o60_3, o60_4, o60_5, o60_6, o60_7, o60_8, o60_9, o60_10, o60_11, o60_12, o60_13, o60_14, o60_15, o60_16, o60_17, o60_18, o60_19, o60_20, o60_21, o60_22, o60_23, o60_24, o60_25, o60_26, o60_27, o60_28, o60_29, o60_30, o60_31, o60_32, o60_33, o60_34, o60_35, o60_36, o60_37, o60_38, o60_39, o60_40, o60_41, o60_42, o60_43, o60_44, go_sem, Nat.reduceAdd, Nat.reduceMul, reduceIte, Nat.reduceLeDiff, Int.reduceLE, Int.reduceLT, Int.reduceToNat, hk, h7, r1, dueOf, oneOf, Ms.cells, Int.reduceEq]
    · by_cases h1 : d.job.step = 1
      · simp only [c60, o60_1, o60_2, o60_3, o60_4, o60_5, o60_6, o60_7, o60_8, o60_9, o60_10, o60_11, o60_12, o60_13, o60_14, o60_15, o60_16, o60_17, o60_18, o60_19, o60_20, o60_21, o60_22, o60_23, o60_24, o60_25, o60_26, o60_27, o60_28, o60_29, o60_30, o60_31, o60_32, o60_33, o60_34, o60_35, o60_36, o60_37, o60_38, o60_39, o60_40, o60_41, o60_42, o60_43, o60_44, go_sem, Nat.reduceAdd, Nat.reduceMul, reduceIte, Nat.reduceLeDiff, Int.reduceLE, Int.reduceLT, Int.reduceToNat, hk, h1, r1, dueOf, oneOf, Ms.cells, Int.reduceEq]
      · simp only [c60, o60_1, o60_2, o60_3, o60_4, o60_5, o60_6, o60_7, o60_8, o60_9, o60_10, o60_11, o60_12, o60_13, o60_14, o60_15, o60_16, o60_17, o60_18, o60_19, o60_20, o60_21, o60_22, o60_23, o60_24, o60_25, o60_26, o60_27, o60_28, o60_29, o60_30, o60_31, o60_32, o60_33, o60_34, o60_35, o60_36, o60_37, o60_38, o60_39, o60_40, o60_41, o60_42, o60_43, o60_44, go_sem, Nat.reduceAdd, Nat.reduceMul, reduceIte, Nat.reduceLeDiff, Int.reduceLE, Int.reduceLT, Int.reduceToNat, hk, h1, h7, r1, dueOf, oneOf, Ms.cells, Int.reduceEq]
  · have r1 := lead19_ok (N := n) d hled d.job.cell (hj.cellK (by omega)) hj.cell.2 (by omega)
    by_cases h7 : d.job.step = 7
    · simp only [c60, o60_1, o60_2, o60_3, o60_4, o60_5, o60_6, o60_7, o60_8, o60_9, o60_10, o60_11, o60_12, o60_13, o60_14, o60_15, o60_16, o60_17, o60_18, o60_19, o60_20, o60_21, o60_22, o60_23, o60_24, o60_25, o60_26, o60_27, o60_28, o60_29, o60_30, o60_31, o60_32, o60_33, o60_34, o60_35, o60_36, o60_37, o60_38, o60_39, o60_40, o60_41, o60_42, o60_43, o60_44, go_sem, Nat.reduceAdd, Nat.reduceMul, reduceIte, Nat.reduceLeDiff, Int.reduceLE, Int.reduceLT, Int.reduceToNat, hk, h7, r1, dueOf, oneOf, Ms.cells, Int.reduceEq]
    · by_cases h1 : d.job.step = 1
      · simp only [c60, o60_1, o60_2, o60_3, o60_4, o60_5, o60_6, o60_7, o60_8, o60_9, o60_10, o60_11, o60_12, o60_13, o60_14, o60_15, o60_16, o60_17, o60_18, o60_19, o60_20, o60_21, o60_22, o60_23, o60_24, o60_25, o60_26, o60_27, o60_28, o60_29, o60_30, o60_31, o60_32, o60_33, o60_34, o60_35, o60_36, o60_37, o60_38, o60_39, o60_40, o60_41, o60_42, o60_43, o60_44, go_sem, Nat.reduceAdd, Nat.reduceMul, reduceIte, Nat.reduceLeDiff, Int.reduceLE, Int.reduceLT, Int.reduceToNat, hk, h1, r1, dueOf, oneOf, Ms.cells, Int.reduceEq]
      · simp only [c60, o60_1, o60_2, o60_3, o60_4, o60_5, o60_6, o60_7, o60_8, o60_9, o60_10, o60_11, o60_12, o60_13, o60_14, o60_15, o60_16, o60_17, o60_18, o60_19, o60_20, o60_21, o60_22, o60_23, o60_24, o60_25, o60_26, o60_27, o60_28, o60_29, o60_30, o60_31, o60_32, o60_33, o60_34, o60_35, o60_36, o60_37, o60_38, o60_39, o60_40, o60_41, o60_42, o60_43, o60_44, go_sem, Nat.reduceAdd, Nat.reduceMul, reduceIte, Nat.reduceLeDiff, Int.reduceLE, Int.reduceLT, Int.reduceToNat, hk, h1, h7, r1, dueOf, oneOf, Ms.cells, Int.reduceEq]
  · by_cases h1 : d.job.step = 1
    · have hL := fun env H h => loop60a (n := n) d hl hpl (by omega) hled hp3 (.inl h1) d.job.wait [] [] n env H rfl (by simp) (by omega) h
      generalize hg : iter n (evCode ⟨run tab prim glob n, glob⟩ (iter n) b60_1) = g at hL
      obtain ⟨R, hR⟩ := c60_at
      rw [hR]
      simp only [c60, o60_1, o60_2, o60_3, o60_4, o60_5, o60_6, o60_7, o60_8, o60_9, o60_10, o60_11, o60_12, o60_13, o60_14, o60_15, o60_16, o60_17, o60_18, o60_19, o60_20, o60_21, o60_22, o60_23, o60_24, o60_25, o60_26, o60_27, o60_28, o60_29, o60_30, o60_31, o60_32, o60_33, o60_34, o60_35, o60_36, o60_37, o60_38, o60_39, o60_40, o60_41, o60_42, o60_43, o60_44, go_sem, Nat.reduceAdd, Nat.reduceMul, reduceIte, Nat.reduceLeDiff, Int.reduceLE, Int.reduceLT, Int.reduceToNat, mentL, ment, ment1, evGh, keepE, keepH, hk, h1, hg, dueOf, Int.reduceEq]
      generalize hE : g _ _ = o
      obtain ⟨ex, env', H', rfl, rfl, h2, rfl⟩ := Ends.at hL hE (by simp only [go_sem, Nat.reduceAdd, Nat.reduceMul, reduceIte, Nat.reduceLeDiff, Int.reduceLE, Int.reduceLT, Int.reduceToNat, mentL, ment, ment1, evGh, keepE, keepH])
      simp only [go_sem, Nat.reduceAdd, Nat.reduceMul, reduceIte, Nat.reduceLeDiff, Int.reduceLE, Int.reduceLT, Int.reduceToNat, h2, Nat.beq_refl, List.length_map, take_map, holdsOf]
    · by_cases h2 : d.job.step = 2
      · have hL := fun env H h => loop60a (n := n) d hl hpl (by omega) hled hp3 (.inr h2) d.job.wait [] [] n env H rfl (by simp) (by omega) h
        generalize hg : iter n (evCode ⟨run tab prim glob n, glob⟩ (iter n) b60_1) = g at hL
        obtain ⟨R, hR⟩ := c60_at
        rw [hR]
        simp only [c60, o60_1, o60_2, o60_3, o60_4, o60_5, o60_6, o60_7, o60_8, o60_9, o60_10, o60_11, o60_12, o60_13, o60_14, o60_15, o60_16, o60_17, o60_18, o60_19, o60_20, o60_21, o60_22, o60_23, o60_24, o60_25, o60_26, o60_27, o60_28, o60_29, o60_30, o60_31, o60_32, o60_33, o60_34, o60_35, o60_36, o60_37, o60_38, o60_39, o60_40, o60_41, o60_42, o60_43, o60_44, go_sem, Nat.reduceAdd, Nat.reduceMul, reduceIte, Nat.reduceLeDiff, Int.reduceLE, Int.reduceLT, Int.reduceToNat, mentL, ment, ment1, evGh, keepE, keepH, hk, h2, hg, dueOf, Int.reduceEq]
        generalize hE : g _ _ = o
        obtain ⟨ex, env', H', rfl, rfl, h2, rfl⟩ := Ends.at hL hE (by simp only [go_sem, Nat.reduceAdd, Nat.reduceMul, reduceIte, Nat.reduceLeDiff, Int.reduceLE, Int.reduceLT, Int.reduceToNat, mentL, ment, ment1, evGh, keepE, keepH])
        simp only [go_sem, Nat.reduceAdd, Nat.reduceMul, reduceIte, Nat.reduceLeDiff, Int.reduceLE, Int.reduceLT, Int.reduceToNat, h2, Nat.beq_refl, List.length_map, take_map, holdsOf]
      · have e := holds_none h1 h2
        simp only [c60, o60_1, o60_2, o60_3, o60_4, o60_5, o60_6, o60_7, o60_8, o60_9, o60_10, o60_11, o60_12, o60_13, o60_14, o60_15, o60_16, o60_17, o60_18, o60_19, o60_20, o60_21, o60_22, o60_23, o60_24, o60_25, o60_26, o60_27, o60_28, o60_29, o60_30, o60_31, o60_32, o60_33, o60_34, o60_35, o60_36, o60_37, o60_38, o60_39, o60_40, o60_41, o60_42, o60_43, o60_44, go_sem, Nat.reduceAdd, Nat.reduceMul, reduceIte, Nat.reduceLeDiff, Int.reduceLE, Int.reduceLT, Int.reduceToNat, hk, h1, h2, e, dueOf, Int.reduceEq]
  · by_cases h1 : d.job.step = 1
    · obtain ⟨m, r, hme⟩ := hj.memK hk
      obtain ⟨x, s, hx, _, hxr⟩ := hf.cell d.job.cell (hj.cellK (by omega)) hj.cell.2
      have hv := cell_fine hxr
      have e1 : IntKind.i64.wrap (d.job.cell - 1) = d.job.cell - 1 := IntWalk.i64_in _ (by have := hj.cell; omega)
      have e2 : 0 ≤ d.job.cell - 1 := by have := hj.cellK (by omega); omega
      have e3 : (d.cells.map infRow)[(d.job.cell - 1).toNat]? = some [.int .i64 x.view, .ro (x.members.map rowI), .bool x.whole] := by rw [List.getElem?_map, hx]; rfl
      have e4 : IntKind.i64.wrap (x.view + 1) = x.view + 1 := IntWalk.i64_in _ (by omega)
      have e5 : d.view d.job.cell = x.view := by unfold Dr.view; rw [hx]; rfl
      simp only [c60, o60_1, o60_2, o60_3, o60_4, o60_5, o60_6, o60_7, o60_8, o60_9, o60_10, o60_11, o60_12, o60_13, o60_14, o60_15, o60_16, o60_17, o60_18, o60_19, o60_20, o60_21, o60_22, o60_23, o60_24, o60_25, o60_26, o60_27, o60_28, o60_29, o60_30, o60_31, o60_32, o60_33, o60_34, o60_35, o60_36, o60_37, o60_38, o60_39, o60_40, o60_41, o60_42, o60_43, o60_44, go_sem, Nat.reduceAdd, Nat.reduceMul, reduceIte, Nat.reduceLeDiff, Int.reduceLE, Int.reduceLT, Int.reduceToNat, hk, h1, hme, e1, e2, e3, e4, e5, dueOf, Ms.cells, rowI, Int.reduceEq, List.length_map, Nat.beq_refl, List.headD_cons]
    · simp only [c60, o60_1, o60_2, o60_3, o60_4, o60_5, o60_6, o60_7, o60_8, o60_9, o60_10, o60_11, o60_12, o60_13, o60_14, o60_15, o60_16, o60_17, o60_18, o60_19, o60_20, o60_21, o60_22, o60_23, o60_24, o60_25, o60_26, o60_27, o60_28, o60_29, o60_30, o60_31, o60_32, o60_33, o60_34, o60_35, o60_36, o60_37, o60_38, o60_39, o60_40, o60_41, o60_42, o60_43, o60_44, go_sem, Nat.reduceAdd, Nat.reduceMul, reduceIte, Nat.reduceLeDiff, Int.reduceLE, Int.reduceLT, Int.reduceToNat, hk, h1, dueOf, Int.reduceEq]
end Go.Proofs.YtefoleocbhkobaaGreatDoor
namespace Go.Proofs.YtefoleocbhkobaaGreatDoor
open Go Go.Ev
set_option linter.unusedSectionVars false
set_option linter.unusedSimpArgs false
set_option linter.unusedVariables false
@[go_sem] theorem dr_take (d : Dr) : List.take 29 d.cellsL = d.cellsL := rfl
@[go_sem] theorem ms_len (m : Ms) : m.cells.length = 36 := rfl
@[go_sem] theorem rz_drop : List.drop 29 refZ = [] := rfl
def Dr.tick (d : Dr) : Dr := { d with leases := tickL d.leases }
def sick (i : Nat) : List Inf → List Ms
  | [] => []
  | x :: r => (if x.whole = true then [] else [{ kind := 33, to_ := x.lead, n := ((i + 1 : Nat) : Int), epoch := x.view, members := x.members }]) ++ sick (i + 1) r
theorem tick_leases : ∀ (l : List Le) (a b : Int), a ≤ b → leasesFrom b l = true → leasesFrom a (tickL l) = true
  | [], _, _, _, _ => rfl
  | x :: r, a, b, hab, h => by
    simp only [leasesFrom, Bool.and_eq_true, decide_eq_true_eq] at h
    obtain ⟨⟨⟨⟨⟨h1, h2⟩, h3⟩, h4⟩, h5⟩, h6⟩ := h
    unfold tickL
    split
    · rename_i hx
      have := tick_leases r x.id x.id (Int.le_refl _) h6
      simp only [leasesFrom, Bool.and_eq_true, decide_eq_true_eq]
      exact ⟨⟨⟨⟨⟨by omega, h2⟩, by omega⟩, by omega⟩, h5⟩, this⟩
    · exact tick_leases r a x.id (by omega) h6
theorem tick_right {l : List Le} (h : leasesRight l = true) : leasesRight (tickL l) = true := by
  simp only [leasesRight, Bool.and_eq_true, decide_eq_true_eq] at h ⊢
  exact ⟨tick_leases l 0 0 (Int.le_refl _) h.1, by have := tickL_len l; omega⟩
theorem tick_fine {d : Dr} (h : d.Fine) : d.tick.Fine :=
  ⟨h.places, tick_right h.leases, h.cells, h.next2, h.next40, h.mark, h.job, h.opened8, h.opened⟩
set_option maxRecDepth 100000 in
set_option maxHeartbeats 1000000 in
theorem loop17a {n : Nat} (d : Dr) (hl : d.cells.length ≤ 1000) (hn : 2 ≤ n) (hm0 : ∀ x ∈ d.cells, (∃ m r, x.members = m :: r) ∧ x.members.length ≤ 1000000000) :
    ∀ (rest pre : List Inf) (acc : List Ms) (m : Nat) (env : Env) (H : Heap), d.cells = pre ++ rest → acc.length ≤ pre.length → rest.length + 1 ≤ m →
    evGh (.keep [1, 2, 4, 19, 20, 21] [100001, 100002, 300004]) env H = some ([(1, .ptr 100001 0), (2, .ptr 100002 0), (4, .own 300004 0 acc.length acc.length), (19, .ro (d.cells.map infRow)), (20, .int .i64 d.cells.length), (21, .int .i64 pre.length)],
      [(100001, .box d.cellsL), (100002, .box refZ), (300004, .arr 36 (acc.map Ms.cells))]) →
    Ends (iter m (evCode ⟨run tab prim glob n, glob⟩ (iter n) b17_1) env H) (fun ex e h => ex = .exit 0 ∧ getT e 1 = .ptr 100001 0 ∧ getT e 2 = .ptr 100002 0 ∧ getT e 4 = .own 300004 0 (acc ++ sick pre.length rest).length (acc ++ sick pre.length rest).length ∧
      h = [(100001, .box d.cellsL), (100002, .box refZ), (300004, .arr 36 ((acc ++ sick pre.length rest).map Ms.cells))])
  | [], pre, acc, m + 1, env, H, hp, ha, hm, hk => by
    have e0 : pre.length = d.cells.length := by rw [hp]; simp
    rw [iter_step]
    generalize iter m (evCode ⟨run tab prim glob n, glob⟩ (iter n) b17_1) = g
    simp only [b17_1, ob17_1_1, ob17_1_2, ob17_1_3, ob17_1_4, ob17_1_5, hk, go_sem, Nat.reduceAdd, Nat.reduceMul, reduceIte, Nat.reduceLeDiff, Int.reduceLE, Int.reduceLT, Int.reduceToNat, e0, Int.lt_irrefl, afterIt, sick]
    exact Ends.of ⟨rfl, rfl, rfl, rfl, rfl⟩
  | x :: rest, pre, acc, m + 1, env, H, hp, ha, hm, hk => by
    have e0 : pre.length < d.cells.length := by rw [hp]; simp
    have e1 : (pre.length : Int) < (d.cells.length : Int) := by omega
    have e2 : (0 : Int) ≤ (pre.length : Int) := by omega
    have e3 := at_pre infRow hp
    have e4 : IntKind.i64.wrap ((pre.length : Int) + 1) = ((pre.length + 1 : Nat) : Int) := cast_add (by omega)
    have e6 : ¬ acc.length + 1 ≤ acc.length := by omega
    have e7 : (acc.length + 1) * 392 ≤ 140737488355328 := by omega
    obtain ⟨⟨a, t, hme⟩, hml⟩ := hm0 x (by rw [hp]; simp)
    have r1 := clone_ok (N := n) (by omega) x.members hml
    have h3 := take_map (a :: t) rowI
    rw [hme] at r1
    have fin : sick pre.length (x :: rest) = (if x.whole = true then [] else [{ kind := 33, to_ := x.lead, n := ((pre.length + 1 : Nat) : Int), epoch := x.view, members := x.members }]) ++ sick (pre.length + 1) rest := rfl
    have ih := fun acc => loop17a (n := n) d hl hn hm0 rest (pre ++ [x]) acc m
    rw [iter_step, fin, ← List.append_assoc]
    generalize iter m (evCode ⟨run tab prim glob n, glob⟩ (iter n) b17_1) = g at ih ⊢
    cases hw : x.whole
    · have ih := ih (acc ++ [{ kind := 33, to_ := x.lead, n := ((pre.length + 1 : Nat) : Int), epoch := x.view, members := x.members }])
      simp only [Bool.false_eq_true, if_false]
      rw [len1 pre x] at ih
      generalize acc ++ [{ kind := 33, to_ := x.lead, n := ((pre.length + 1 : Nat) : Int), epoch := x.view, members := x.members }] ++ sick (pre.length + 1) rest = R at ih ⊢
      have e8 : x.lead = a := by simp [Inf.lead, hme]
      simp only [len1, List.map_append, List.map_cons, List.map_nil, List.length_cons, infRow, rowI, Ms.cells, hme, hw, e8] at ih e3 r1 h3
      simp only [b17_1, ob17_1_1, ob17_1_2, ob17_1_3, ob17_1_4, ob17_1_5, hk, go_sem, Nat.reduceAdd, Nat.reduceMul, reduceIte, Nat.reduceLeDiff, Int.reduceLE, Int.reduceLT, Int.reduceToNat, e1, e2, e3, e4, e6, e7, r1, h3, List.length_map, Nat.beq_refl, afterIt, rowI]
      exact ih _ _ (by rw [hp]; simp) (by omega) (by simp at hm; omega) rfl
    · have ih := ih acc
      simp only [if_true, List.append_nil]
      rw [len1 pre x] at ih
      generalize acc ++ sick (pre.length + 1) rest = R at ih ⊢
      simp only [infRow, hw] at e3
      simp only [b17_1, ob17_1_1, ob17_1_2, ob17_1_3, ob17_1_4, ob17_1_5, hk, go_sem, Nat.reduceAdd, Nat.reduceMul, reduceIte, Nat.reduceLeDiff, Int.reduceLE, Int.reduceLT, Int.reduceToNat, e1, e2, e3, e4, List.length_map, Nat.beq_refl, afterIt]
      exact ih _ _ (by rw [hp]; simp) (by omega) (by simp at hm; omega) rfl
def St.isZ (s : St) : Bool := decide (s.wall = 0) && (decide (s.tick = 0) && decide (s.node = 0))
def askOf (d : Dr) (tm : St) (c : Int) : List Ms := { kind := 30, to_ := d.lead c, n := c, tm := tm } :: (if d.mark.isZ = true then [] else [{ kind := 32, to_ := d.lead c, n := c, tm := d.mark }])
def asksFrom (d : Dr) (tm : St) (c : Int) : Nat → List Ms
  | 0 => []
  | k + 1 => askOf d tm c ++ asksFrom d tm (c + 1) k
set_option maxRecDepth 100000 in
set_option maxHeartbeats 1000000 in
theorem loop17b {n : Nat} (d : Dr) (hn : 2 ≤ n) (hled : d.led) (tm : St) : ∀ (k : Nat) (c : Int) (acc : List Ms) (m : Nat) (env : Env) (H : Heap), c + k = 4 → 1 ≤ c → acc.length + 2 * k ≤ 1000000000 → k + 1 ≤ m →
    evGh (.keep [1, 2, 4, 7, 9] [100001, 100002, 100006, 100007, 100042, 100043, 100048, 204000, 300004]) env H = some ([(1, .ptr 100001 0), (2, .ptr 100002 0), (4, .own 300004 0 acc.length acc.length), (7, .ptr 100007 0), (9, .int .i64 c)],
      [(100001, .box d.cellsL), (100002, .box refZ), (100007, .box tm.cells), (300004, .arr 36 (acc.map Ms.cells))]) →
    Ends (iter m (evCode ⟨run tab prim glob n, glob⟩ (iter n) b17_2) env H) (fun ex e h => ex = .exit 2 ∧ getT e 1 = .ptr 100001 0 ∧ getT e 2 = .ptr 100002 0 ∧ getT e 4 = .own 300004 0 (acc ++ asksFrom d tm c k).length (acc ++ asksFrom d tm c k).length ∧
      h = [(100001, .box d.cellsL), (100002, .box refZ), (100007, .box tm.cells), (300004, .arr 36 ((acc ++ asksFrom d tm c k).map Ms.cells))])
  | 0, c, acc, m + 1, env, H, hc, h1, ha, hm, hk => by
    have e1 : ¬ c ≤ 3 := by omega
    rw [iter_step]
    generalize iter m (evCode ⟨run tab prim glob n, glob⟩ (iter n) b17_2) = g
    simp only [b17_2, ob17_2_1, ob17_2_2, ob17_2_3, ob17_2_4, ob17_2_5, hk, go_sem, Nat.reduceAdd, Nat.reduceMul, reduceIte, Nat.reduceLeDiff, Int.reduceLE, Int.reduceLT, Int.reduceToNat, e1, afterIt, asksFrom]
    exact Ends.of ⟨rfl, rfl, rfl, rfl, rfl⟩
  | k + 1, c, acc, m + 1, env, H, hc, h1, ha, hm, hk => by
    have e1 : c ≤ 3 := by omega
    have e4 : IntKind.i64.wrap (c + 1) = c + 1 := IntWalk.i64_in _ (by omega)
    have e6 : ¬ acc.length + 1 ≤ acc.length := by omega
    have e7 : (acc.length + 1) * 392 ≤ 140737488355328 := by omega
    have e8 : ¬ acc.length + 1 + 1 ≤ acc.length + 1 := by omega
    have e9 : (acc.length + 1 + 1) * 392 ≤ 140737488355328 := Nat.le_trans (Nat.mul_le_mul_right 392 (show acc.length + 1 + 1 ≤ 1000000000 by omega)) (by decide)
    have r1 := lead_ok (N := n) d hled c h1 e1 (by omega)
    have ih := loop17b (n := n) d hn hled tm k (c + 1) (acc ++ askOf d tm c) m
    have fin : asksFrom d tm c (k + 1) = askOf d tm c ++ asksFrom d tm (c + 1) k := by simp only [asksFrom]
    rw [iter_step, fin, ← List.append_assoc]
    generalize iter m (evCode ⟨run tab prim glob n, glob⟩ (iter n) b17_2) = g at ih ⊢
    generalize acc ++ askOf d tm c ++ asksFrom d tm (c + 1) k = R at ih ⊢
    cases hz : d.mark.isZ
    · have ex : askOf d tm c = [{ kind := 30, to_ := d.lead c, n := c, tm := tm }, { kind := 32, to_ := d.lead c, n := c, tm := d.mark }] := by unfold askOf; rw [hz]; rfl
      rw [ex] at ih
      unfold St.isZ at hz
      simp only [List.length_append, List.length_cons, List.length_nil, List.map_append, List.map_cons, List.map_nil, Ms.cells, St.cells, Nat.zero_add, Nat.reduceAdd] at ih hk
      simp only [b17_2, ob17_2_1, ob17_2_2, ob17_2_3, ob17_2_4, ob17_2_5, hk, go_sem, Nat.reduceAdd, Nat.reduceMul, reduceIte, Nat.reduceLeDiff, Int.reduceLE, Int.reduceLT, Int.reduceToNat, e1, e4, e6, e7, e8, e9, r1, hz, St.cells, List.length_map, Nat.beq_refl, afterIt, List.length_append, List.append_assoc]
      exact ih _ _ (by omega) (by omega) (by omega) (by omega) rfl
    · have ex : askOf d tm c = [{ kind := 30, to_ := d.lead c, n := c, tm := tm }] := by unfold askOf; rw [hz]; rfl
      rw [ex] at ih
      unfold St.isZ at hz
      simp only [len1, List.map_append, List.map_cons, List.map_nil, Ms.cells, St.cells] at ih hk
      simp only [b17_2, ob17_2_1, ob17_2_2, ob17_2_3, ob17_2_4, ob17_2_5, hk, go_sem, Nat.reduceAdd, Nat.reduceMul, reduceIte, Nat.reduceLeDiff, Int.reduceLE, Int.reduceLT, Int.reduceToNat, e1, e4, e6, e7, r1, hz, St.cells, List.length_map, Nat.beq_refl, afterIt]
      exact ih _ _ (by omega) (by omega) (by omega) (by omega) rfl
end Go.Proofs.YtefoleocbhkobaaGreatDoor
namespace Go.Proofs.YtefoleocbhkobaaGreatDoor
open Go Go.Ev
set_option linter.unusedSectionVars false
set_option linter.unusedSimpArgs false
set_option linter.unusedVariables false
def Dr.asked (d : Dr) : St := match d.leases with
  | [] => match d.lows with
    | [] => z0
    | x :: r => greatest x r
  | x :: r => leastOf (x :: r)
def ticksOf (d : Dr) : List Ms := sick 0 d.cells ++ dueOf d ++ (if d.job.kind = 0 then asksFrom d d.asked 1 3 else [])
theorem drop_map {X : Type} (l : List X) (c : X → List PV) : List.drop l.length (l.map c) = [] := List.drop_of_length_le (by simp)
theorem cells_mem {d : Dr} (h : d.Fine) : ∀ x ∈ d.cells, ∃ m r, x.members = m :: r := by
  obtain ⟨x1, x2, x3, s1, s2, s3, hc, hl, c1, c2, c3⟩ := h.cells
  rw [hc]
  intro x hx
  simp only [List.mem_cons, List.not_mem_nil, or_false] at hx
  rcases hx with rfl | rfl | rfl
  · exact stores_cons (cell_fine c1).2.2.1
  · exact stores_cons (cell_fine c2).2.2.1
  · exact stores_cons (cell_fine c3).2.2.1
theorem sick_len : ∀ (l : List Inf) (i : Nat), (sick i l).length ≤ l.length
  | [], _ => Nat.le_refl _
  | x :: r, i => by
    have := sick_len r (i + 1)
    simp only [sick, List.length_append, List.length_cons]
    split <;> simp <;> omega
theorem dueOf_len (d : Dr) : (dueOf d).length ≤ d.job.wait.length + 1 := by
  unfold dueOf
  split
  · have := flat_len (holdOf d) (holdOf_len d) d.job.wait
    unfold holdsOf; omega
  · repeat (first | split | simp | (unfold oneOf))
set_option maxRecDepth 100000 in
set_option maxHeartbeats 4000000 in
theorem tickD_ok {N B : Nat} (d : Dr) (hf : d.Fine) (hB : B ≤ 2000000) (hd : d.small B) (hp1 : d.job.parts.length ≤ 140737488355328) (hp2 : d.job.parts.flatten.length ≤ 140737488355328) (hN : 10 * B + 200 ≤ N) :
    run tab prim glob N 17 [.agg d.cellsL] = some (.tuple [.agg d.tick.cellsL, .ro ((ticksOf d.tick).map Ms.cells)], []) := by
  obtain ⟨n, rfl⟩ : ∃ n, N = n + 1 := ⟨N - 1, by omega⟩
  rw [enters (fn := c17) rfl]
  have r1 := dir_ok (N := n) d hB hd (by omega)
  rw [(d.fine_iff).2 hf] at r1
  have r2 := tickP_ok (N := n) d.leases (by have := hd.leases; omega) hf.leases (by have := hd.leases; omega)
  have hf1 := tick_fine hf
  have ho : ∀ id, run tab prim glob (n - 2) 47 [.ro (d.tick.places.map Pl.cells), .int .i64 id] = some (ofRes (ofPl d.tick.places id), []) := fun id =>
    of_ok (N := n - 2) (B := B) d.places (by omega) hd.places hd.texts hf.places id (by omega)
  have r3 := due_ok (N := n) d.tick hf1 (by have := hd.wait; exact Nat.le_trans this hB) (by have := hd.jobm; exact Nat.le_trans this hB) hp1 hp2 ho (by have : d.tick.job.wait.length ≤ B := hd.wait; omega)
  have hs : splice d.cellsL 3 [.ro ((tickL d.leases).map Le.cells)] = d.tick.cellsL := rfl
  have hc3 : d.tick.cells.length = 3 := by
    obtain ⟨x1, x2, x3, s1, s2, s3, hc, _⟩ := hf.cells
    show d.cells.length = 3
    rw [hc]; rfl
  have hmem : ∀ x ∈ d.tick.cells, (∃ m r, x.members = m :: r) ∧ x.members.length ≤ 1000000000 := fun x hx => ⟨cells_mem hf x hx, by have := hd.cells x hx; omega⟩
  have hdl := dueOf_len d.tick
  have hwl : d.tick.job.wait.length ≤ B := hd.wait
  have hsl := sick_len d.tick.cells 0
  obtain ⟨s, t, hlo⟩ : ∃ s t, d.tick.lows = s :: t ∧ t.length ≤ 2 := by
    obtain ⟨x1, x2, x3, s1, s2, s3, _, hl, _⟩ := hf.cells
    exact ⟨s1, [s2, s3], hl, by simp⟩
  obtain ⟨hlo, htl⟩ := hlo
  have hlr := hf1.leases
  have hll : d.tick.leases.length ≤ B := Nat.le_trans (tickL_len d.leases) hd.leases
  generalize d.tick = d1 at *
  have hL1 := fun env H h => loop17a (n := n) d1 (by omega) (by omega) hmem d1.cells [] [] n env H rfl (by simp) (by omega) h
  generalize hg1 : iter n (evCode ⟨run tab prim glob n, glob⟩ (iter n) b17_1) = g1 at hL1
  simp only [List.nil_append, List.length_nil] at hL1
  simp only [c17, o17_1, o17_2, o17_3, o17_4, o17_5, o17_6, go_sem, Nat.reduceAdd, Nat.reduceMul, reduceIte, Nat.reduceLeDiff, Int.reduceLE, Int.reduceLT, Int.reduceToNat, mentL, ment, ment1, evGh, keepE, keepH, r1, r2, hs, hg1, List.length_map]
  generalize hE : g1 _ _ = o
  obtain ⟨ex, env', H', rfl, rfl, q1, q2, q3, rfl⟩ := Ends.at hL1 hE (by simp only [go_sem, Nat.reduceAdd, Nat.reduceMul, reduceIte, Nat.reduceLeDiff, Int.reduceLE, Int.reduceLT, Int.reduceToNat, mentL, ment, ment1, evGh, keepE, keepH]; rfl)
  unfold ticksOf
  by_cases hk : d1.job.kind = 0
  · have hdu : dueOf d1 = [] := by unfold dueOf; rw [hk]; rfl
    rw [hdu] at r3 ⊢
    have hL2 := fun tm env H h => loop17b (n := n) d1 (by omega) hf1.led tm 3 1 (sick 0 d1.cells) n env H (by omega) (by omega) (by omega) (by omega) h
    generalize hg2 : iter n (evCode ⟨run tab prim glob n, glob⟩ (iter n) b17_2) = g2 at hL2
    have r4 := least_ok (N := n) d1.leases (by omega) hlr (by omega)
    simp only [List.append_nil, hk, if_true]
    generalize hS : sick 0 d1.cells = S at q3 hL2 hsl ⊢
    have t1 := take_map S Ms.cells
    have t2 := drop_map S Ms.cells
    cases hle : d1.leases with
    | nil =>
      have hat : d1.asked = greatest s t := by unfold Dr.asked; rw [hle, hlo]
      rw [hle] at r4
      have r5 := max_ok (N := n) s t (by omega) (by omega)
      rw [← hlo] at r5
      rw [hat]
      have hL2 := hL2 (greatest s t)
      generalize greatest s t = tm at hL2 r5 ⊢
      generalize asksFrom d1 tm 1 3 = A at hL2 ⊢
      simp only [St.cells, List.map_nil] at hL2 r3 r4 r5
      simp only [k17_2, ok17_2_1, ok17_2_2, ok17_2_3, ok17_2_4, ok17_2_5, ok17_2_6, go_sem, Nat.reduceAdd, Nat.reduceMul, reduceIte, Nat.reduceLeDiff, Int.reduceLE, Int.reduceLT, Int.reduceToNat, mentL, ment, ment1, evGh, keepE, keepH, q1, q2, q3, r3, r4, r5, hk, hle, hg2, List.map_nil, List.length_map, Nat.beq_refl, Nat.le_refl, Nat.lt_irrefl, t1, t2, leastOf, z0, St.cells]
      generalize hE2 : g2 _ _ = o2
      obtain ⟨ex2, env2, H2, rfl, rfl, p1, p2, p3, rfl⟩ := Ends.at hL2 hE2 (by simp only [go_sem, Nat.reduceAdd, Nat.reduceMul, reduceIte, Nat.reduceLeDiff, Int.reduceLE, Int.reduceLT, Int.reduceToNat, mentL, ment, ment1, evGh, keepE, keepH, q1, q2])
      simp only [k17_1, ok17_1_1, go_sem, Nat.reduceAdd, Nat.reduceMul, reduceIte, Nat.reduceLeDiff, Int.reduceLE, Int.reduceLT, Int.reduceToNat, mentL, ment, ment1, evGh, keepE, keepH, p1, p2, p3, List.length_map, Nat.beq_refl, take_map]
    | cons a b =>
      have hat : d1.asked = leastOf (a :: b) := by unfold Dr.asked; rw [hle]
      rw [hle] at r4
      rw [hat]
      have hL2 := hL2 (leastOf (a :: b))
      generalize leastOf (a :: b) = tm at hL2 r4 ⊢
      generalize asksFrom d1 tm 1 3 = A at hL2 ⊢
      have n1 : 0 < (a :: b).length := by simp
      rw [decide_eq_true n1] at r4
      simp only [St.cells, List.map_cons] at hL2 r4
      simp only [List.map_nil] at r3
      simp only [k17_2, ok17_2_1, ok17_2_2, ok17_2_3, ok17_2_4, ok17_2_5, ok17_2_6, go_sem, Nat.reduceAdd, Nat.reduceMul, reduceIte, Nat.reduceLeDiff, Int.reduceLE, Int.reduceLT, Int.reduceToNat, mentL, ment, ment1, evGh, keepE, keepH, q1, q2, q3, r3, r4, hk, hle, hg2, List.length_map, Nat.beq_refl, Nat.le_refl, t1, t2, St.cells]
      generalize hE2 : g2 _ _ = o2
      obtain ⟨ex2, env2, H2, rfl, rfl, p1, p2, p3, rfl⟩ := Ends.at hL2 hE2 (by simp only [go_sem, Nat.reduceAdd, Nat.reduceMul, reduceIte, Nat.reduceLeDiff, Int.reduceLE, Int.reduceLT, Int.reduceToNat, mentL, ment, ment1, evGh, keepE, keepH, q1, q2])
      simp only [k17_1, ok17_1_1, go_sem, Nat.reduceAdd, Nat.reduceMul, reduceIte, Nat.reduceLeDiff, Int.reduceLE, Int.reduceLT, Int.reduceToNat, mentL, ment, ment1, evGh, keepE, keepH, p1, p2, p3, List.length_map, Nat.beq_refl, take_map]
  · generalize hS : sick 0 d1.cells = S at q3 hsl ⊢
    have t1 := take_map S Ms.cells
    have t2 := drop_map S Ms.cells
    simp only [hk, if_false, List.append_nil]
    generalize dueOf d1 = D at r3 hdl ⊢
    cases D with
    | nil =>
      simp only [List.map_nil] at r3
      simp only [k17_2, ok17_2_1, ok17_2_2, ok17_2_3, ok17_2_4, ok17_2_5, ok17_2_6, k17_1, ok17_1_1, go_sem, Nat.reduceAdd, Nat.reduceMul, reduceIte, Nat.reduceLeDiff, Int.reduceLE, Int.reduceLT, Int.reduceToNat, mentL, ment, ment1, evGh, keepE, keepH, q1, q2, q3, r3, hk, List.length_map, Nat.beq_refl, Nat.le_refl, t1, t2]
    | cons a b =>
      have e6 : ¬ S.length + (b.length + 1) ≤ S.length := by omega
      have e7 : (S.length + (b.length + 1)) * 392 ≤ 140737488355328 := by
        have : S.length + (b.length + 1) ≤ 10000000 := by simp at hdl; omega
        exact Nat.le_trans (Nat.mul_le_mul_right 392 this) (by decide)
      have t3 := take_map (S ++ a :: b) Ms.cells
      have z := ms_szok (a :: b)
      simp only [List.map_append, List.map_cons, List.length_append, List.length_cons] at r3 t3 z
      simp only [k17_2, ok17_2_1, ok17_2_2, ok17_2_3, ok17_2_4, ok17_2_5, ok17_2_6, k17_1, ok17_1_1, go_sem, Nat.reduceAdd, Nat.reduceMul, reduceIte, Nat.reduceLeDiff, Int.reduceLE, Int.reduceLT, Int.reduceToNat, mentL, ment, ment1, evGh, keepE, keepH, q1, q2, q3, r3, z, hk, List.length_map, List.length_append, Nat.beq_refl, e6, e7, t3, List.map_append]
end Go.Proofs.YtefoleocbhkobaaGreatDoor
namespace Go.Proofs.YtefoleocbhkobaaGreatDoor
open Go Go.Ev
set_option linter.unusedSectionVars false
set_option linter.unusedSimpArgs false
set_option linter.unusedVariables false
set_option maxRecDepth 100000 in
set_option maxHeartbeats 1000000 in
theorem loop18a {n : Nat} (d : Dr) (hl : d.cells.length = 3) (hled : d.led) (hn : 2 ≤ n) :
    ∀ (rest pre : List Inf) (acc : List Ms) (m : Nat) (env : Env) (H : Heap), d.cells = pre ++ rest → acc.length ≤ pre.length → rest.length + 1 ≤ m →
    evGh (.keep [1, 2, 4, 5] [100001, 100002, 300004]) env H = some ([(1, .ptr 100001 0), (2, .ptr 100002 0), (4, .own 300004 0 acc.length acc.length), (5, .int .i64 ((pre.length + 1 : Nat) : Int))],
      [(100001, .box d.cellsL), (100002, .box refZ), (300004, .arr 36 (acc.map Ms.cells))]) →
    Ends (iter m (evCode ⟨run tab prim glob n, glob⟩ (iter n) b18_1) env H) (fun ex e h => ex = .exit 0 ∧ getT e 1 = .ptr 100001 0 ∧ getT e 2 = .ptr 100002 0 ∧ getT e 4 = .own 300004 0 (acc ++ sick pre.length rest).length (acc ++ sick pre.length rest).length ∧
      h = [(100001, .box d.cellsL), (100002, .box refZ), (300004, .arr 36 ((acc ++ sick pre.length rest).map Ms.cells))])
  | [], pre, acc, m + 1, env, H, hp, ha, hm, hk => by
    have e0 : pre.length = 3 := by rw [← hl, hp]; simp
    have e1 : ¬ ((pre.length + 1 : Nat) : Int) < 4 := by omega
    rw [iter_step]
    generalize iter m (evCode ⟨run tab prim glob n, glob⟩ (iter n) b18_1) = g
    simp only [b18_1, ob18_1_1, ob18_1_2, ob18_1_3, ob18_1_4, hk, go_sem, Nat.reduceAdd, Nat.reduceMul, reduceIte, Nat.reduceLeDiff, Int.reduceLE, Int.reduceLT, Int.reduceToNat, e1, afterIt, sick]
    exact Ends.of ⟨rfl, rfl, rfl, rfl, rfl⟩
  | x :: rest, pre, acc, m + 1, env, H, hp, ha, hm, hk => by
    have e0 : pre.length < 3 := by rw [← hl, hp]; simp
    have e1 : ((pre.length + 1 : Nat) : Int) < 4 := by omega
    have e2 : (0 : Int) ≤ (pre.length : Int) := by omega
    have e3 := at_pre infRow hp
    have e4 : IntKind.i64.wrap (((pre.length + 1 : Nat) : Int) + 1) = ((pre.length + 1 + 1 : Nat) : Int) := cast_add (by omega)
    have e5 : IntKind.i64.wrap (((pre.length + 1 : Nat) : Int) - 1) = (pre.length : Int) := by rw [IntWalk.i64_in _ (by omega)]; omega
    have e6 : ¬ acc.length + 1 ≤ acc.length := by omega
    have e7 : (acc.length + 1) * 392 ≤ 140737488355328 := by omega
    have r1 := lead19_ok (N := n) d hled ((pre.length + 1 : Nat) : Int) (by omega) (by omega) (by omega)
    have e8 : d.lead ((pre.length + 1 : Nat) : Int) = x.lead := by
      unfold Dr.lead
      rw [show (((pre.length + 1 : Nat) : Int) - 1).toNat = pre.length by omega, hp]
      simp
    have fin : sick pre.length (x :: rest) = (if x.whole = true then [] else [{ kind := 33, to_ := x.lead, n := ((pre.length + 1 : Nat) : Int), epoch := x.view, members := x.members }]) ++ sick (pre.length + 1) rest := rfl
    have ih := fun acc => loop18a (n := n) d hl hled hn rest (pre ++ [x]) acc m
    rw [iter_step, fin, ← List.append_assoc]
    generalize iter m (evCode ⟨run tab prim glob n, glob⟩ (iter n) b18_1) = g at ih ⊢
    rw [e8] at r1
    generalize x.lead = y at r1 ⊢
    cases hw : x.whole
    · have ih := ih (acc ++ [{ kind := 33, to_ := y, n := ((pre.length + 1 : Nat) : Int), epoch := x.view, members := x.members }])
      simp only [Bool.false_eq_true, if_false]
      rw [len1 pre x] at ih
      generalize acc ++ [{ kind := 33, to_ := y, n := ((pre.length + 1 : Nat) : Int), epoch := x.view, members := x.members }] ++ sick (pre.length + 1) rest = R at ih ⊢
      simp only [len1, List.map_append, List.map_cons, List.map_nil, infRow, Ms.cells, hw] at ih e3
      simp only [b18_1, ob18_1_1, ob18_1_2, ob18_1_3, ob18_1_4, hk, go_sem, Nat.reduceAdd, Nat.reduceMul, reduceIte, Nat.reduceLeDiff, Int.reduceLE, Int.reduceLT, Int.reduceToNat, e1, e2, e3, e4, e5, e6, e7, r1, List.length_map, Nat.beq_refl, afterIt]
      exact ih _ _ (by rw [hp]; simp) (by omega) (by simp at hm; omega) rfl
    · have ih := ih acc
      simp only [if_true, List.append_nil]
      rw [len1 pre x] at ih
      generalize acc ++ sick (pre.length + 1) rest = R at ih ⊢
      simp only [infRow, hw] at e3
      simp only [b18_1, ob18_1_1, ob18_1_2, ob18_1_3, ob18_1_4, hk, go_sem, Nat.reduceAdd, Nat.reduceMul, reduceIte, Nat.reduceLeDiff, Int.reduceLE, Int.reduceLT, Int.reduceToNat, e1, e2, e3, e4, e5, List.length_map, Nat.beq_refl, afterIt]
      exact ih _ _ (by rw [hp]; simp) (by omega) (by simp at hm; omega) rfl
set_option maxRecDepth 100000 in
set_option maxHeartbeats 1000000 in
theorem loop18b {n : Nat} (d : Dr) (hl : d.lows.length = 3) (hn : 4 ≤ n) (S : List Ms) :
    ∀ (rest pre : List St) (s : St) (m : Nat) (env : Env) (H : Heap), d.lows = pre ++ rest → rest.length + 1 ≤ m →
    evGh (.keep [1, 2, 4, 6, 7] [100001, 100002, 100006, 100046, 100047, 100051, 300004]) env H = some ([(1, .ptr 100001 0), (2, .ptr 100002 0), (4, .own 300004 0 S.length S.length), (6, .ptr 100006 0), (7, .int .i64 pre.length)],
      [(100001, .box d.cellsL), (100002, .box refZ), (100006, .box s.cells), (300004, .arr 36 (S.map Ms.cells))]) →
    Ends (iter m (evCode ⟨run tab prim glob n, glob⟩ (iter n) b18_2) env H) (fun ex e h => ex = .exit 2 ∧ getT e 1 = .ptr 100001 0 ∧ getT e 2 = .ptr 100002 0 ∧ getT e 4 = .own 300004 0 S.length S.length ∧ getT e 6 = .ptr 100006 0 ∧
      h = [(100001, .box d.cellsL), (100002, .box refZ), (100006, .box (greatest s rest).cells), (300004, .arr 36 (S.map Ms.cells))])
  | [], pre, s, m + 1, env, H, hp, hm, hk => by
    have e0 : pre.length = 3 := by rw [← hl, hp]; simp
    have e1 : ¬ (pre.length : Int) < 3 := by omega
    rw [iter_step]
    generalize iter m (evCode ⟨run tab prim glob n, glob⟩ (iter n) b18_2) = g
    simp only [b18_2, ob18_2_1, ob18_2_2, ob18_2_3, hk, go_sem, Nat.reduceAdd, Nat.reduceMul, reduceIte, Nat.reduceLeDiff, Int.reduceLE, Int.reduceLT, Int.reduceToNat, e1, afterIt, greatest]
    exact Ends.of ⟨rfl, rfl, rfl, rfl, rfl, rfl⟩
  | x :: rest, pre, s, m + 1, env, H, hp, hm, hk => by
    have e0 : pre.length < 3 := by rw [← hl, hp]; simp
    have e1 : (pre.length : Int) < 3 := by omega
    have e2 : (0 : Int) ≤ (pre.length : Int) := by omega
    have e3 := at_pre St.cells hp
    have e4 : IntKind.i64.wrap ((pre.length : Int) + 1) = ((pre.length + 1 : Nat) : Int) := cast_add (by omega)
    have r1 := later05_ok (N := n) (by omega) s x
    have ih := loop18b (n := n) d hl hn S rest (pre ++ [x]) (s.later x) m
    have fin : greatest s (x :: rest) = greatest (s.later x) rest := rfl
    rw [iter_step, fin]
    generalize iter m (evCode ⟨run tab prim glob n, glob⟩ (iter n) b18_2) = g at ih ⊢
    rw [len1 pre x] at ih
    generalize greatest (s.later x) rest = R at ih ⊢
    simp only [St.cells] at hk ih e3 r1 ⊢
    simp only [b18_2, ob18_2_1, ob18_2_2, ob18_2_3, hk, go_sem, Nat.reduceAdd, Nat.reduceMul, reduceIte, Nat.reduceLeDiff, Int.reduceLE, Int.reduceLT, Int.reduceToNat, e1, e2, e3, e4, r1, List.length_map, Nat.beq_refl, afterIt]
    exact ih _ _ (by rw [hp]; simp) (by simp at hm; omega) rfl
def seen (b : Bool) (s : St) (l : List Le) : St := match b, l with
  | false, x :: r => least x.tm (x :: r)
  | _, r => least s r
set_option maxRecDepth 100000 in
set_option maxHeartbeats 1000000 in
theorem loop18c {n : Nat} (d : Dr) (hl : d.leases.length ≤ 2000000) (hn : 4 ≤ n) (S : List Ms) :
    ∀ (rest pre : List Le) (s : St) (m : Nat) (env : Env) (H : Heap), d.leases = pre ++ rest → rest.length + 1 ≤ m →
    evGh (.keep [1, 2, 4, 6, 8] [100001, 100002, 100006, 100046, 100047, 100051, 300004]) env H = some ([(1, .ptr 100001 0), (2, .ptr 100002 0), (4, .own 300004 0 S.length S.length), (6, .ptr 100006 0), (8, .int .i64 pre.length)],
      [(100001, .box d.cellsL), (100002, .box refZ), (100006, .box s.cells), (300004, .arr 36 (S.map Ms.cells))]) →
    Ends (iter m (evCode ⟨run tab prim glob n, glob⟩ (iter n) b18_3) env H) (fun ex e h => ex = .exit 4 ∧ getT e 1 = .ptr 100001 0 ∧ getT e 2 = .ptr 100002 0 ∧ getT e 4 = .own 300004 0 S.length S.length ∧ getT e 6 = .ptr 100006 0 ∧
      h = [(100001, .box d.cellsL), (100002, .box refZ), (100006, .box (seen (decide (0 < pre.length)) s rest).cells), (300004, .arr 36 (S.map Ms.cells))])
  | [], pre, s, m + 1, env, H, hp, hm, hk => by
    have e0 : pre.length = d.leases.length := by rw [hp]; simp
    have fin : seen (decide (0 < pre.length)) s [] = s := by unfold seen; cases decide (0 < pre.length) <;> rfl
    rw [fin]
    rw [iter_step]
    generalize iter m (evCode ⟨run tab prim glob n, glob⟩ (iter n) b18_3) = g
    simp only [b18_3, ob18_3_1, ob18_3_2, ob18_3_3, ob18_3_4, ob18_3_5, hk, go_sem, Nat.reduceAdd, Nat.reduceMul, reduceIte, Nat.reduceLeDiff, Int.reduceLE, Int.reduceLT, Int.reduceToNat, e0, Int.lt_irrefl, afterIt, List.length_map]
    exact Ends.of ⟨rfl, rfl, rfl, rfl, rfl, rfl⟩
  | x :: rest, pre, s, m + 1, env, H, hp, hm, hk => by
    have e0 : pre.length < d.leases.length := by rw [hp]; simp
    have e1 : (pre.length : Int) < (d.leases.length : Int) := by omega
    have e2 : (0 : Int) ≤ (pre.length : Int) := by omega
    have e3 := at_pre Le.cells hp
    have e4 : IntKind.i64.wrap ((pre.length : Int) + 1) = ((pre.length + 1 : Nat) : Int) := cast_add (by omega)
    have ih := fun s => loop18c (n := n) d hl hn S rest (pre ++ [x]) s m
    rw [iter_step]
    generalize iter m (evCode ⟨run tab prim glob n, glob⟩ (iter n) b18_3) = g at ih ⊢
    have n2 : 0 < pre.length + 1 := by omega
    have sn : ∀ s, seen (decide (0 < (pre ++ [x]).length)) s rest = least s rest := fun s => by rw [len1, decide_eq_true n2]; rfl
    by_cases h0 : pre.length = 0
    · have hp0 : pre = [] := by simpa using h0
      have r1 := sooner05_ok (N := n) (by omega) x.tm x.tm
      have fin : seen (decide (0 < pre.length)) s (x :: rest) = least (x.tm.sooner x.tm) rest := by rw [h0]; rfl
      have ih := ih (x.tm.sooner x.tm)
      rw [sn] at ih
      rw [fin]
      rw [len1 pre x] at ih
      generalize least (x.tm.sooner x.tm) rest = R at ih ⊢
      have e5 : (d.leases.map Le.cells)[0]? = some x.cells := by rw [h0] at e3; exact e3
      simp only [St.cells, Le.cells, h0] at hk ih e3 e4 e5 r1 ⊢
      simp only [b18_3, ob18_3_1, ob18_3_2, ob18_3_3, ob18_3_4, ob18_3_5, hk, go_sem, Nat.reduceAdd, Nat.reduceMul, reduceIte, Nat.reduceLeDiff, Int.reduceLE, Int.reduceLT, Int.reduceToNat, e4, e5, r1, List.length_map, Nat.beq_refl, afterIt, Int.natCast_zero, Int.toNat_zero, Int.le_refl, show (0 : Int) < (d.leases.length : Int) by omega]
      exact ih _ _ (by rw [hp]; simp) (by simp at hm; omega) rfl
    · have n1 : ((pre.length : Int) = 0) = False := by simp only [eq_iff_iff, iff_false]; omega
      have n3 : 0 < pre.length := by omega
      have r1 := sooner05_ok (N := n) (by omega) s x.tm
      have fin : seen (decide (0 < pre.length)) s (x :: rest) = least (s.sooner x.tm) rest := by rw [decide_eq_true n3]; rfl
      have ih := ih (s.sooner x.tm)
      rw [sn] at ih
      rw [fin]
      rw [len1 pre x] at ih
      generalize least (s.sooner x.tm) rest = R at ih ⊢
      simp only [St.cells, Le.cells] at hk ih e3 r1 ⊢
      simp only [b18_3, ob18_3_1, ob18_3_2, ob18_3_3, ob18_3_4, ob18_3_5, hk, go_sem, Nat.reduceAdd, Nat.reduceMul, reduceIte, Nat.reduceLeDiff, Int.reduceLE, Int.reduceLT, Int.reduceToNat, e1, e2, e3, e4, n1, r1, List.length_map, Nat.beq_refl, afterIt]
      exact ih _ _ (by rw [hp]; simp) (by simp at hm; omega) rfl
set_option maxRecDepth 100000 in
set_option maxHeartbeats 1000000 in
theorem loop18d {n : Nat} (d : Dr) (hn : 2 ≤ n) (hled : d.led) (tm : St) : ∀ (k : Nat) (c : Int) (acc : List Ms) (m : Nat) (env : Env) (H : Heap), c + k = 4 → 1 ≤ c → acc.length + 2 * k ≤ 1000000000 → k + 1 ≤ m →
    evGh (.keep [1, 2, 4, 6, 9] [100001, 100002, 100006, 100046, 100047, 100051, 300004]) env H = some ([(1, .ptr 100001 0), (2, .ptr 100002 0), (4, .own 300004 0 acc.length acc.length), (6, .ptr 100006 0), (9, .int .i64 c)],
      [(100001, .box d.cellsL), (100002, .box refZ), (100006, .box tm.cells), (300004, .arr 36 (acc.map Ms.cells))]) →
    Ends (iter m (evCode ⟨run tab prim glob n, glob⟩ (iter n) b18_4) env H) (fun ex e h => ex = .exit 6 ∧ getT e 1 = .ptr 100001 0 ∧ getT e 2 = .ptr 100002 0 ∧ getT e 4 = .own 300004 0 (acc ++ asksFrom d tm c k).length (acc ++ asksFrom d tm c k).length ∧
      h = [(100001, .box d.cellsL), (100002, .box refZ), (100006, .box tm.cells), (300004, .arr 36 ((acc ++ asksFrom d tm c k).map Ms.cells))])
  | 0, c, acc, m + 1, env, H, hc, h1, ha, hm, hk => by
    have e1 : ¬ c < 4 := by omega
    rw [iter_step]
    generalize iter m (evCode ⟨run tab prim glob n, glob⟩ (iter n) b18_4) = g
    simp only [b18_4, ob18_4_1, ob18_4_2, ob18_4_3, ob18_4_4, ob18_4_5, hk, go_sem, Nat.reduceAdd, Nat.reduceMul, reduceIte, Nat.reduceLeDiff, Int.reduceLE, Int.reduceLT, Int.reduceToNat, e1, afterIt, asksFrom]
    exact Ends.of ⟨rfl, rfl, rfl, rfl, rfl⟩
  | k + 1, c, acc, m + 1, env, H, hc, h1, ha, hm, hk => by
    have e1 : c < 4 := by omega
    have e4 : IntKind.i64.wrap (c + 1) = c + 1 := IntWalk.i64_in _ (by omega)
    have e6 : ¬ acc.length + 1 ≤ acc.length := by omega
    have e7 : (acc.length + 1) * 392 ≤ 140737488355328 := Nat.le_trans (Nat.mul_le_mul_right 392 (show acc.length + 1 ≤ 1000000000 by omega)) (by decide)
    have e8 : ¬ acc.length + 1 + 1 ≤ acc.length + 1 := by omega
    have e9 : (acc.length + 1 + 1) * 392 ≤ 140737488355328 := Nat.le_trans (Nat.mul_le_mul_right 392 (show acc.length + 1 + 1 ≤ 1000000000 by omega)) (by decide)
    have r1 := lead19_ok (N := n) d hled c h1 (by omega) (by omega)
    have ih := loop18d (n := n) d hn hled tm k (c + 1) (acc ++ askOf d tm c) m
    have fin : asksFrom d tm c (k + 1) = askOf d tm c ++ asksFrom d tm (c + 1) k := by simp only [asksFrom]
    rw [iter_step, fin, ← List.append_assoc]
    generalize iter m (evCode ⟨run tab prim glob n, glob⟩ (iter n) b18_4) = g at ih ⊢
    generalize acc ++ askOf d tm c ++ asksFrom d tm (c + 1) k = R at ih ⊢
    cases hz : d.mark.isZ
    · have ex : askOf d tm c = [{ kind := 30, to_ := d.lead c, n := c, tm := tm }, { kind := 32, to_ := d.lead c, n := c, tm := d.mark }] := by unfold askOf; rw [hz]; rfl
      rw [ex] at ih
      unfold St.isZ at hz
      simp only [List.length_append, List.length_cons, List.length_nil, List.map_append, List.map_cons, List.map_nil, Ms.cells, St.cells, Nat.zero_add, Nat.reduceAdd] at ih hk
      simp only [b18_4, ob18_4_1, ob18_4_2, ob18_4_3, ob18_4_4, ob18_4_5, hk, go_sem, Nat.reduceAdd, Nat.reduceMul, reduceIte, Nat.reduceLeDiff, Int.reduceLE, Int.reduceLT, Int.reduceToNat, e1, e4, e6, e7, e8, e9, r1, hz, St.cells, List.length_map, Nat.beq_refl, afterIt, List.length_append, List.append_assoc]
      exact ih _ _ (by omega) (by omega) (by omega) (by omega) rfl
    · have ex : askOf d tm c = [{ kind := 30, to_ := d.lead c, n := c, tm := tm }] := by unfold askOf; rw [hz]; rfl
      rw [ex] at ih
      unfold St.isZ at hz
      simp only [len1, List.map_append, List.map_cons, List.map_nil, Ms.cells, St.cells] at ih hk
      simp only [b18_4, ob18_4_1, ob18_4_2, ob18_4_3, ob18_4_4, ob18_4_5, hk, go_sem, Nat.reduceAdd, Nat.reduceMul, reduceIte, Nat.reduceLeDiff, Int.reduceLE, Int.reduceLT, Int.reduceToNat, e1, e4, e6, e7, r1, hz, St.cells, List.length_map, Nat.beq_refl, afterIt]
      exact ih _ _ (by omega) (by omega) (by omega) (by omega) rfl
end Go.Proofs.YtefoleocbhkobaaGreatDoor
namespace Go.Proofs.YtefoleocbhkobaaGreatDoor
open Go Go.Ev
set_option linter.unusedSectionVars false
set_option linter.unusedSimpArgs false
set_option linter.unusedVariables false
set_option maxRecDepth 100000 in
set_option maxHeartbeats 4000000 in
theorem tick19_ok {N B : Nat} (d : Dr) (hf : d.Fine) (hB : B ≤ 2000000) (hd : d.small B) (hp1 : d.job.parts.length ≤ B) (hp2 : d.job.parts.flatten.length ≤ 140737488355328) (hN : 10 * B + 200 ≤ N) :
    run tab prim glob N 18 [.agg d.cellsL] = some (.tuple [.agg d.tick.cellsL, .ro ((ticksOf d.tick).map Ms.cells)], []) := by
  obtain ⟨n, rfl⟩ : ∃ n, N = n + 1 := ⟨N - 1, by omega⟩
  rw [enters (fn := c18) rfl]
  have r2 := tick16_ok (N := n) d.leases (by have := hd.leases; omega) hf.leases (by have := hd.leases; omega)
  have hf1 := tick_fine hf
  have hpl8 : d.tick.places.length ≤ 8 := by
    have := hf.places
    simp only [placesRight, Bool.and_eq_true, decide_eq_true_eq] at this
    show d.places.length ≤ 8
    omega
  have r3 := due19_ok (N := n) d.tick hf1 (by have := hd.wait; exact Nat.le_trans this hB) (by have := hd.jobm; exact Nat.le_trans this hB) (by omega) (by exact Nat.le_trans hp1 (by omega)) hp2 (by have : d.tick.job.wait.length ≤ B := hd.wait; have : d.tick.job.parts.length ≤ B := hp1; omega)
  have hs : splice d.cellsL 3 [.ro ((tickL d.leases).map Le.cells)] = d.tick.cellsL := rfl
  have hc3 : d.tick.cells.length = 3 := by
    obtain ⟨x1, x2, x3, s1, s2, s3, hc, _⟩ := hf.cells
    show d.cells.length = 3
    rw [hc]; rfl
  have hdl := dueOf_len d.tick
  have hwl : d.tick.job.wait.length ≤ B := hd.wait
  have hsl := sick_len d.tick.cells 0
  obtain ⟨s, t, hlo⟩ : ∃ s t, d.tick.lows = s :: t ∧ t.length = 2 := by
    obtain ⟨x1, x2, x3, s1, s2, s3, _, hl, _⟩ := hf.cells
    exact ⟨s1, [s2, s3], hl, by simp⟩
  obtain ⟨hlo, htl⟩ := hlo
  have hll : d.tick.leases.length ≤ B := Nat.le_trans (tickL_len d.leases) hd.leases
  generalize d.tick = d1 at *
  have hL1 := fun env H h => loop18a (n := n) d1 hc3 hf1.led (by omega) d1.cells [] [] n env H rfl (by simp) (by omega) h
  generalize hg1 : iter n (evCode ⟨run tab prim glob n, glob⟩ (iter n) b18_1) = g1 at hL1
  simp only [List.nil_append, List.length_nil, Nat.zero_add] at hL1
  simp only [c18, o18_1, o18_2, o18_3, o18_4, go_sem, Nat.reduceAdd, Nat.reduceMul, reduceIte, Nat.reduceLeDiff, Int.reduceLE, Int.reduceLT, Int.reduceToNat, mentL, ment, ment1, evGh, keepE, keepH, r2, hs, hg1]
  generalize hE : g1 _ _ = o
  obtain ⟨ex, env', H', rfl, rfl, q1, q2, q3, rfl⟩ := Ends.at hL1 hE (by simp only [go_sem, Nat.reduceAdd, Nat.reduceMul, reduceIte, Nat.reduceLeDiff, Int.reduceLE, Int.reduceLT, Int.reduceToNat, mentL, ment, ment1, evGh, keepE, keepH]; rfl)
  unfold ticksOf
  by_cases hk : d1.job.kind = 0
  · have hdu : dueOf d1 = [] := by unfold dueOf; rw [hk]; rfl
    rw [hdu] at r3 ⊢
    simp only [List.append_nil, hk, if_true]
    have hL2 := fun S env H h => loop18b (n := n) d1 (by rw [hlo]; simp; omega) (by omega) S d1.lows [] s n env H rfl (by rw [hlo]; simp; omega) h
    have hL3 := fun S s env H h => loop18c (n := n) d1 (by omega) (by omega) S d1.leases [] s n env H rfl (by omega) h
    have hL4 := fun tm env H h => loop18d (n := n) d1 (by omega) hf1.led tm 3 1 (sick 0 d1.cells) n env H (by omega) (by omega) (by omega) (by omega) h
    generalize hg2 : iter n (evCode ⟨run tab prim glob n, glob⟩ (iter n) b18_2) = g2 at hL2
    generalize hg3 : iter n (evCode ⟨run tab prim glob n, glob⟩ (iter n) b18_3) = g3 at hL3
    generalize hg4 : iter n (evCode ⟨run tab prim glob n, glob⟩ (iter n) b18_4) = g4 at hL4
    generalize hS : sick 0 d1.cells = S at q3 hL4 hsl ⊢
    have hL2 := hL2 S
    have hL3 := hL3 S (greatest s d1.lows)
    have hat : seen (decide (0 < ([] : List Le).length)) (greatest s d1.lows) d1.leases = d1.asked := by
      unfold Dr.asked
      cases d1.leases with
      | nil => rw [hlo]; show greatest (s.later s) t = greatest s t; rw [later_self]
      | cons a b => rfl
    rw [hat] at hL3
    have hL4 := hL4 d1.asked
    have t1 := take_map S Ms.cells
    have t2 := drop_map S Ms.cells
    have e5 : (d1.lows.map St.cells)[0]? = some s.cells := by rw [hlo]; rfl
    generalize greatest s d1.lows = ga at hL2 hL3
    generalize asksFrom d1 d1.asked 1 3 = A at hL4 ⊢
    generalize d1.asked = tm at hL3 hL4
    simp only [St.cells, List.map_nil, List.length_nil] at hL2 hL3 hL4 r3 e5
    simp only [k18_2, ok18_2_1, ok18_2_2, ok18_2_3, ok18_2_4, ok18_2_5, ok18_2_6, go_sem, Nat.reduceAdd, Nat.reduceMul, reduceIte, Nat.reduceLeDiff, Int.reduceLE, Int.reduceLT, Int.reduceToNat, mentL, ment, ment1, evGh, keepE, keepH, q1, q2, q3, r3, hk, e5, hg2, hg3, hg4, List.map_nil, List.length_map, Nat.beq_refl, Nat.le_refl, t1, t2, St.cells]
    generalize hE2 : g2 _ _ = o2
    obtain ⟨ex2, env2, H2, rfl, rfl, p1, p2, p3, p4, rfl⟩ := Ends.at hL2 hE2 (by simp only [go_sem, Nat.reduceAdd, Nat.reduceMul, reduceIte, Nat.reduceLeDiff, Int.reduceLE, Int.reduceLT, Int.reduceToNat, mentL, ment, ment1, evGh, keepE, keepH, q1, q2])
    simp only [go_sem, Nat.reduceAdd, Nat.reduceMul, reduceIte, Nat.reduceLeDiff, Int.reduceLE, Int.reduceLT, Int.reduceToNat, mentL, ment, ment1, evGh, keepE, keepH, p1, p2, p3, p4, hg3, hg4]
    generalize hE3 : g3 _ _ = o3
    obtain ⟨ex3, env3, H3, rfl, rfl, u1, u2, u3, u4, rfl⟩ := Ends.at hL3 hE3 (by simp only [go_sem, Nat.reduceAdd, Nat.reduceMul, reduceIte, Nat.reduceLeDiff, Int.reduceLE, Int.reduceLT, Int.reduceToNat, mentL, ment, ment1, evGh, keepE, keepH, p1, p2, p3, p4])
    simp only [go_sem, Nat.reduceAdd, Nat.reduceMul, reduceIte, Nat.reduceLeDiff, Int.reduceLE, Int.reduceLT, Int.reduceToNat, mentL, ment, ment1, evGh, keepE, keepH, u1, u2, u3, u4, hg4]
    generalize hE4 : g4 _ _ = o4
    obtain ⟨ex4, env4, H4, rfl, rfl, v1, v2, v3, rfl⟩ := Ends.at hL4 hE4 (by simp only [go_sem, Nat.reduceAdd, Nat.reduceMul, reduceIte, Nat.reduceLeDiff, Int.reduceLE, Int.reduceLT, Int.reduceToNat, mentL, ment, ment1, evGh, keepE, keepH, u1, u2, u3, u4])
    simp only [k18_1, ok18_1_1, go_sem, Nat.reduceAdd, Nat.reduceMul, reduceIte, Nat.reduceLeDiff, Int.reduceLE, Int.reduceLT, Int.reduceToNat, mentL, ment, ment1, evGh, keepE, keepH, v1, v2, v3, List.length_map, Nat.beq_refl, take_map]
  · generalize hS : sick 0 d1.cells = S at q3 hsl ⊢
    have t1 := take_map S Ms.cells
    have t2 := drop_map S Ms.cells
    simp only [hk, if_false, List.append_nil]
    generalize dueOf d1 = D at r3 hdl ⊢
    cases D with
    | nil =>
      simp only [List.map_nil] at r3
      simp only [k18_2, ok18_2_1, ok18_2_2, ok18_2_3, ok18_2_4, ok18_2_5, ok18_2_6, k18_1, ok18_1_1, go_sem, Nat.reduceAdd, Nat.reduceMul, reduceIte, Nat.reduceLeDiff, Int.reduceLE, Int.reduceLT, Int.reduceToNat, mentL, ment, ment1, evGh, keepE, keepH, q1, q2, q3, r3, hk, List.length_map, Nat.beq_refl, Nat.le_refl, t1, t2]
    | cons a b =>
      have e6 : ¬ S.length + (b.length + 1) ≤ S.length := by omega
      have e7 : (S.length + (b.length + 1)) * 392 ≤ 140737488355328 := by
        have : S.length + (b.length + 1) ≤ 10000000 := by simp at hdl; omega
        exact Nat.le_trans (Nat.mul_le_mul_right 392 this) (by decide)
      have t3 := take_map (S ++ a :: b) Ms.cells
      have z := ms_szok (a :: b)
      simp only [List.map_append, List.map_cons, List.length_append, List.length_cons] at r3 t3 z
      simp only [k18_2, ok18_2_1, ok18_2_2, ok18_2_3, ok18_2_4, ok18_2_5, ok18_2_6, k18_1, ok18_1_1, go_sem, Nat.reduceAdd, Nat.reduceMul, reduceIte, Nat.reduceLeDiff, Int.reduceLE, Int.reduceLT, Int.reduceToNat, mentL, ment, ment1, evGh, keepE, keepH, q1, q2, q3, r3, z, hk, List.length_map, List.length_append, Nat.beq_refl, e6, e7, t3, List.map_append]
end Go.Proofs.YtefoleocbhkobaaGreatDoor
namespace Go.Proofs.YtefoleocbhkobaaGreatDoor
open Go Go.Ev
set_option linter.unusedSectionVars false
set_option linter.unusedSimpArgs false
set_option linter.unusedVariables false
@[go_sem high] theorem ms_all (m : Ms) : rdc m.cells 0 36 true = some (.agg m.cells) := rfl
@[go_sem] theorem ms_take (m : Ms) : List.take 36 m.cells = m.cells := rfl
@[go_sem] theorem ms_clo (H : Heap) (m : Ms) : cloL H m.cells = some (m.cells, []) := rfl
def k51 : IC := .seq (.reg o51_5) (.ret)
theorem c51_at : c51 = ⟨2, [.t 4], [], [], .seq (.reg o51_1) (.seq (.seq (.reg o51_2) (.cond (.t 12) (.seq (.reg o51_3) (.ret)) (.skip))) (.seq (.seq (.reg o51_4) (.block 0 (.loop b51_1))) k51))⟩ := rfl
def k99 : IC := .seq (.reg o99_5) (.ret)
theorem c99_at : c99 = ⟨2, [.t 4], [], [], .seq (.reg o99_1) (.seq (.seq (.reg o99_2) (.cond (.t 12) (.seq (.reg o99_3) (.ret)) (.skip))) (.seq (.seq (.reg o99_4) (.block 0 (.loop b99_1))) k99))⟩ := rfl
def k126 : IC := .seq (.reg o126_5) (.ret)
theorem c126_at : c126 = ⟨2, [.t 4], [], [], .seq (.reg o126_1) (.seq (.seq (.reg o126_2) (.cond (.t 12) (.seq (.reg o126_3) (.ret)) (.skip))) (.seq (.seq (.reg o126_4) (.block 0 (.loop b126_1))) k126))⟩ := rfl
@[go_sem high] theorem dr_span (d : Dr) : rdc d.job.cells 13 2 true = some (.agg [.str d.job.lo, .str d.job.hi]) := rfl
set_option maxRecDepth 100000 in
set_option maxHeartbeats 1000000 in
theorem loop48 {n : Nat} (l : List Int) (hl : l.length ≤ 1000000000) : ∀ (rest pre : List Int) (m : Nat) (env : Env) (H : Heap), l = pre ++ rest → rest.length + 1 ≤ m →
    evGh (.keep [0, 1, 5] []) env H = some ([(0, .ro (l.map rowI)), (1, .ro (l.map rowI)), (5, .int .i64 pre.length)], []) →
    Ends (iter m (evCode ⟨run tab prim glob n, glob⟩ (iter n) b48_1) env H) (fun ex _ _ => ex = .exit 0)
  | [], pre, m + 1, env, H, hp, hm, hk => by
    have e0 : pre.length = l.length := by rw [hp]; simp
    rw [iter_step]
    generalize iter m (evCode ⟨run tab prim glob n, glob⟩ (iter n) b48_1) = g
    simp only [b48_1, ob48_1_1, ob48_1_2, ob48_1_3, ob48_1_4, hk, go_sem, Nat.reduceAdd, Nat.reduceMul, reduceIte, Nat.reduceLeDiff, Int.reduceLE, Int.reduceLT, Int.reduceToNat, e0, Int.lt_irrefl, afterIt, List.length_map]
    exact Ends.of rfl
  | x :: rest, pre, m + 1, env, H, hp, hm, hk => by
    have e0 : pre.length < l.length := by rw [hp]; simp
    have e1 : (pre.length : Int) < (l.length : Int) := by omega
    have e2 : (0 : Int) ≤ (pre.length : Int) := by omega
    have e3 := at_pre rowI hp
    have e4 : IntKind.i64.wrap ((pre.length : Int) + 1) = ((pre.length + 1 : Nat) : Int) := cast_add (by omega)
    have ih := loop48 (n := n) l hl rest (pre ++ [x]) m
    rw [iter_step]
    generalize iter m (evCode ⟨run tab prim glob n, glob⟩ (iter n) b48_1) = g at ih ⊢
    simp only [rowI, len1] at e3 ih
    simp only [b48_1, ob48_1_1, ob48_1_2, ob48_1_3, ob48_1_4, hk, go_sem, Nat.reduceAdd, Nat.reduceMul, reduceIte, Nat.reduceLeDiff, Int.reduceLE, Int.reduceLT, Int.reduceToNat, e1, e2, e3, e4, List.length_map, Nat.beq_refl, afterIt, beq_self_eq_true]
    exact ih _ _ (by rw [hp]; simp) (by simp at hm; omega) rfl
theorem ints_ok {N : Nat} (l : List Int) (hl : l.length ≤ 1000000000) (hN : l.length + 4 ≤ N) : run tab prim glob N 48 [.ro (l.map rowI), .ro (l.map rowI)] = some (.bool true, []) := by
  obtain ⟨n, rfl⟩ : ∃ n, N = n + 1 := ⟨N - 1, by omega⟩
  rw [enters (fn := c48) rfl]
  have hL := fun env H h => loop48 (n := n) l hl l [] n env H rfl (by omega) h
  simp only [c48, o48_1, o48_2, o48_3, o48_4, o48_5, go_sem, Nat.reduceAdd, Nat.reduceMul, reduceIte, Nat.reduceLeDiff, Int.reduceLE, Int.reduceLT, Int.reduceToNat, List.length_map]
  generalize iter n (evCode ⟨run tab prim glob n, glob⟩ (iter n) b48_1) = gg at hL ⊢
  generalize hE : gg _ _ = o
  obtain ⟨ex, env', H', rfl, rfl⟩ := Ends.at hL hE (by rfl)
  simp only [go_sem, Nat.reduceAdd, Nat.reduceMul, reduceIte, Nat.reduceLeDiff, Int.reduceLE, Int.reduceLT, Int.reduceToNat]
set_option maxRecDepth 100000 in
set_option maxHeartbeats 1000000 in
theorem loop49 {n : Nat} (l : List Pl) (hl : l.length ≤ 1000000000) : ∀ (rest pre : List Pl) (m : Nat) (env : Env) (H : Heap), l = pre ++ rest → rest.length + 1 ≤ m →
    evGh (.keep [0, 1, 5] []) env H = some ([(0, .ro (l.map Pl.cells)), (1, .ro (l.map Pl.cells)), (5, .int .i64 pre.length)], []) →
    Ends (iter m (evCode ⟨run tab prim glob n, glob⟩ (iter n) b49_1) env H) (fun ex _ _ => ex = .exit 0)
  | [], pre, m + 1, env, H, hp, hm, hk => by
    have e0 : pre.length = l.length := by rw [hp]; simp
    rw [iter_step]
    generalize iter m (evCode ⟨run tab prim glob n, glob⟩ (iter n) b49_1) = g
    simp only [b49_1, ob49_1_1, ob49_1_2, ob49_1_3, ob49_1_4, hk, go_sem, Nat.reduceAdd, Nat.reduceMul, reduceIte, Nat.reduceLeDiff, Int.reduceLE, Int.reduceLT, Int.reduceToNat, e0, Int.lt_irrefl, afterIt, List.length_map]
    exact Ends.of rfl
  | x :: rest, pre, m + 1, env, H, hp, hm, hk => by
    have e0 : pre.length < l.length := by rw [hp]; simp
    have e1 : (pre.length : Int) < (l.length : Int) := by omega
    have e2 : (0 : Int) ≤ (pre.length : Int) := by omega
    have e3 := at_pre Pl.cells hp
    have e4 : IntKind.i64.wrap ((pre.length : Int) + 1) = ((pre.length + 1 : Nat) : Int) := cast_add (by omega)
    have ih := loop49 (n := n) l hl rest (pre ++ [x]) m
    rw [iter_step]
    generalize iter m (evCode ⟨run tab prim glob n, glob⟩ (iter n) b49_1) = g at ih ⊢
    simp only [Pl.cells, len1] at e3 ih
    simp only [b49_1, ob49_1_1, ob49_1_2, ob49_1_3, ob49_1_4, hk, go_sem, Nat.reduceAdd, Nat.reduceMul, reduceIte, Nat.reduceLeDiff, Int.reduceLE, Int.reduceLT, Int.reduceToNat, e1, e2, e3, e4, List.length_map, Nat.beq_refl, afterIt, beq_self_eq_true]
    exact ih _ _ (by rw [hp]; simp) (by simp at hm; omega) rfl
theorem plEq_ok {N : Nat} (l : List Pl) (hl : l.length ≤ 1000000000) (hN : l.length + 4 ≤ N) : run tab prim glob N 49 [.ro (l.map Pl.cells), .ro (l.map Pl.cells)] = some (.bool true, []) := by
  obtain ⟨n, rfl⟩ : ∃ n, N = n + 1 := ⟨N - 1, by omega⟩
  rw [enters (fn := c49) rfl]
  have hL := fun env H h => loop49 (n := n) l hl l [] n env H rfl (by omega) h
  simp only [c49, o49_1, o49_2, o49_3, o49_4, o49_5, go_sem, Nat.reduceAdd, Nat.reduceMul, reduceIte, Nat.reduceLeDiff, Int.reduceLE, Int.reduceLT, Int.reduceToNat, List.length_map]
  generalize iter n (evCode ⟨run tab prim glob n, glob⟩ (iter n) b49_1) = gg at hL ⊢
  generalize hE : gg _ _ = o
  obtain ⟨ex, env', H', rfl, rfl⟩ := Ends.at hL hE (by rfl)
  simp only [go_sem, Nat.reduceAdd, Nat.reduceMul, reduceIte, Nat.reduceLeDiff, Int.reduceLE, Int.reduceLT, Int.reduceToNat]
set_option maxRecDepth 100000 in
set_option maxHeartbeats 1000000 in
theorem loop50 {n : Nat} (l : List Le) (hl : l.length ≤ 1000000000) : ∀ (rest pre : List Le) (m : Nat) (env : Env) (H : Heap), l = pre ++ rest → rest.length + 1 ≤ m →
    evGh (.keep [0, 1, 5] []) env H = some ([(0, .ro (l.map Le.cells)), (1, .ro (l.map Le.cells)), (5, .int .i64 pre.length)], []) →
    Ends (iter m (evCode ⟨run tab prim glob n, glob⟩ (iter n) b50_1) env H) (fun ex _ _ => ex = .exit 0)
  | [], pre, m + 1, env, H, hp, hm, hk => by
    have e0 : pre.length = l.length := by rw [hp]; simp
    rw [iter_step]
    generalize iter m (evCode ⟨run tab prim glob n, glob⟩ (iter n) b50_1) = g
    simp only [b50_1, ob50_1_1, ob50_1_2, ob50_1_3, ob50_1_4, hk, go_sem, Nat.reduceAdd, Nat.reduceMul, reduceIte, Nat.reduceLeDiff, Int.reduceLE, Int.reduceLT, Int.reduceToNat, e0, Int.lt_irrefl, afterIt, List.length_map]
    exact Ends.of rfl
  | x :: rest, pre, m + 1, env, H, hp, hm, hk => by
    have e0 : pre.length < l.length := by rw [hp]; simp
    have e1 : (pre.length : Int) < (l.length : Int) := by omega
    have e2 : (0 : Int) ≤ (pre.length : Int) := by omega
    have e3 := at_pre Le.cells hp
    have e4 : IntKind.i64.wrap ((pre.length : Int) + 1) = ((pre.length + 1 : Nat) : Int) := cast_add (by omega)
    have ih := loop50 (n := n) l hl rest (pre ++ [x]) m
    rw [iter_step]
    generalize iter m (evCode ⟨run tab prim glob n, glob⟩ (iter n) b50_1) = g at ih ⊢
    simp only [Le.cells, len1] at e3 ih
    simp only [b50_1, ob50_1_1, ob50_1_2, ob50_1_3, ob50_1_4, hk, go_sem, Nat.reduceAdd, Nat.reduceMul, reduceIte, Nat.reduceLeDiff, Int.reduceLE, Int.reduceLT, Int.reduceToNat, e1, e2, e3, e4, List.length_map, Nat.beq_refl, afterIt, beq_self_eq_true]
    exact ih _ _ (by rw [hp]; simp) (by simp at hm; omega) rfl
theorem leEq_ok {N : Nat} (l : List Le) (hl : l.length ≤ 1000000000) (hN : l.length + 4 ≤ N) : run tab prim glob N 50 [.ro (l.map Le.cells), .ro (l.map Le.cells)] = some (.bool true, []) := by
  obtain ⟨n, rfl⟩ : ∃ n, N = n + 1 := ⟨N - 1, by omega⟩
  rw [enters (fn := c50) rfl]
  have hL := fun env H h => loop50 (n := n) l hl l [] n env H rfl (by omega) h
  simp only [c50, o50_1, o50_2, o50_3, o50_4, o50_5, go_sem, Nat.reduceAdd, Nat.reduceMul, reduceIte, Nat.reduceLeDiff, Int.reduceLE, Int.reduceLT, Int.reduceToNat, List.length_map]
  generalize iter n (evCode ⟨run tab prim glob n, glob⟩ (iter n) b50_1) = gg at hL ⊢
  generalize hE : gg _ _ = o
  obtain ⟨ex, env', H', rfl, rfl⟩ := Ends.at hL hE (by rfl)
  simp only [go_sem, Nat.reduceAdd, Nat.reduceMul, reduceIte, Nat.reduceLeDiff, Int.reduceLE, Int.reduceLT, Int.reduceToNat]
set_option maxRecDepth 100000 in
set_option maxHeartbeats 1000000 in
theorem loop51 {n : Nat} (d : Dr) (hl : d.job.parts.length ≤ 1000000000) : ∀ (rest pre : List (List UInt8)) (m : Nat) (env : Env) (H : Heap), d.job.parts = pre ++ rest → rest.length + 1 ≤ m →
    evGh (.keep [2, 3, 5] [100002, 100003]) env H = some ([(2, .ptr 100002 0), (3, .ptr 100003 0), (5, .int .i64 pre.length)], [(100002, .box d.job.cells), (100003, .box d.job.cells)]) →
    Ends (iter m (evCode ⟨run tab prim glob n, glob⟩ (iter n) b51_1) env H) (fun ex e h => ex = .exit 0 ∧ getT e 2 = .ptr 100002 0 ∧ getT e 3 = .ptr 100003 0 ∧ h = [(100002, .box d.job.cells), (100003, .box d.job.cells)])
  | [], pre, m + 1, env, H, hp, hm, hk => by
    have e0 : pre.length = d.job.parts.length := by rw [hp]; simp
    rw [iter_step]
    generalize iter m (evCode ⟨run tab prim glob n, glob⟩ (iter n) b51_1) = g
    simp only [b51_1, ob51_1_1, ob51_1_2, ob51_1_3, ob51_1_4, hk, go_sem, Nat.reduceAdd, Nat.reduceMul, reduceIte, Nat.reduceLeDiff, Int.reduceLE, Int.reduceLT, Int.reduceToNat, e0, Int.lt_irrefl, afterIt, List.length_map]
    exact Ends.of ⟨rfl, rfl, rfl, rfl⟩
  | x :: rest, pre, m + 1, env, H, hp, hm, hk => by
    have e0 : pre.length < d.job.parts.length := by rw [hp]; simp
    have e1 : (pre.length : Int) < (d.job.parts.length : Int) := by omega
    have e2 : (0 : Int) ≤ (pre.length : Int) := by omega
    have e3 := at_pre (fun s => [PV.str s]) hp
    have e4 : IntKind.i64.wrap ((pre.length : Int) + 1) = ((pre.length + 1 : Nat) : Int) := cast_add (by omega)
    have ih := loop51 (n := n) d hl rest (pre ++ [x]) m
    rw [iter_step]
    generalize iter m (evCode ⟨run tab prim glob n, glob⟩ (iter n) b51_1) = g at ih ⊢
    simp only [len1] at e3 ih
    simp only [b51_1, ob51_1_1, ob51_1_2, ob51_1_3, ob51_1_4, hk, go_sem, Nat.reduceAdd, Nat.reduceMul, reduceIte, Nat.reduceLeDiff, Int.reduceLE, Int.reduceLT, Int.reduceToNat, e1, e2, e3, e4, List.length_map, Nat.beq_refl, afterIt, beq_self_eq_true]
    exact ih _ _ (by rw [hp]; simp) (by simp at hm; omega) rfl
set_option maxRecDepth 100000 in
set_option maxHeartbeats 4000000 in
theorem jobEq_ok {N : Nat} (d : Dr) (h1 : d.job.parts.length ≤ 1000000000) (h2 : d.job.wait.length ≤ 1000000000) (h3 : d.job.members.length ≤ 1000000000) (hN : d.job.parts.length + d.job.wait.length + d.job.members.length + 10 ≤ N) : run tab prim glob N 51 [.agg d.job.cells, .agg d.job.cells] = some (.bool true, []) := by
  obtain ⟨n, rfl⟩ : ∃ n, N = n + 1 := ⟨N - 1, by omega⟩
  rw [enters (fn := c51) rfl]
  have r1 := ints_ok (N := n) d.job.wait h2 (by omega)
  have r2 := ints_ok (N := n) d.job.members h3 (by omega)
  have hL := fun env H h => loop51 (n := n) d h1 d.job.parts [] n env H rfl (by omega) h
  generalize hg : iter n (evCode ⟨run tab prim glob n, glob⟩ (iter n) b51_1) = gg at hL
  rw [c51_at]
  simp only [o51_1, o51_2, o51_4, go_sem, Nat.reduceAdd, Nat.reduceMul, reduceIte, Nat.reduceLeDiff, Int.reduceLE, Int.reduceLT, Int.reduceToNat, mentL, ment, ment1, evGh, keepE, keepH, hg]
  generalize hE : gg _ _ = o
  obtain ⟨ex, env', H', rfl, rfl, q1, q2, rfl⟩ := Ends.at hL hE (by simp only [go_sem, Nat.reduceAdd, Nat.reduceMul, reduceIte, Nat.reduceLeDiff, Int.reduceLE, Int.reduceLT, Int.reduceToNat, mentL, ment, ment1, evGh, keepE, keepH])
  simp only [k51, o51_5, go_sem, Nat.reduceAdd, Nat.reduceMul, reduceIte, Nat.reduceLeDiff, Int.reduceLE, Int.reduceLT, Int.reduceToNat, q1, q2, r1, r2, St.cells, beq_self_eq_true]
set_option maxRecDepth 100000 in
set_option maxHeartbeats 1000000 in
theorem loop15a {n : Nat} (d : Dr) {B : Nat} (hm0 : ∀ x ∈ d.cells, x.members.length ≤ B) (hB : B ≤ 1000000000) (hN : B + 4 ≤ n) (hl : d.cells.length ≤ 1000000000) : ∀ (rest pre : List Inf) (m : Nat) (env : Env) (H : Heap), d.cells = pre ++ rest → rest.length + 1 ≤ m →
    evGh (.keep [2, 3, 5] [100002, 100003]) env H = some ([(2, .ptr 100002 0), (3, .ptr 100003 0), (5, .int .i64 pre.length)], [(100002, .box d.cellsL), (100003, .box d.cellsL)]) →
    Ends (iter m (evCode ⟨run tab prim glob n, glob⟩ (iter n) b15_1) env H) (fun ex e h => ex = .exit 0 ∧ getT e 2 = .ptr 100002 0 ∧ getT e 3 = .ptr 100003 0 ∧ h = [(100002, .box d.cellsL), (100003, .box d.cellsL)])
  | [], pre, m + 1, env, H, hp, hm, hk => by
    have e0 : pre.length = d.cells.length := by rw [hp]; simp
    rw [iter_step]
    generalize iter m (evCode ⟨run tab prim glob n, glob⟩ (iter n) b15_1) = g
    simp only [b15_1, ob15_1_1, ob15_1_2, ob15_1_3, ob15_1_4, hk, go_sem, Nat.reduceAdd, Nat.reduceMul, reduceIte, Nat.reduceLeDiff, Int.reduceLE, Int.reduceLT, Int.reduceToNat, e0, Int.lt_irrefl, afterIt, List.length_map]
    exact Ends.of ⟨rfl, rfl, rfl, rfl⟩
  | x :: rest, pre, m + 1, env, H, hp, hm, hk => by
    have e0 : pre.length < d.cells.length := by rw [hp]; simp
    have e1 : (pre.length : Int) < (d.cells.length : Int) := by omega
    have e2 : (0 : Int) ≤ (pre.length : Int) := by omega
    have e3 := at_pre infRow hp
    have e4 : IntKind.i64.wrap ((pre.length : Int) + 1) = ((pre.length + 1 : Nat) : Int) := cast_add (by omega)
    have r1 := ints_ok (N := n) x.members (by have := hm0 x (by rw [hp]; simp); omega) (by have := hm0 x (by rw [hp]; simp); omega)
    have ih := loop15a (n := n) d hm0 hB hN hl rest (pre ++ [x]) m
    rw [iter_step]
    generalize iter m (evCode ⟨run tab prim glob n, glob⟩ (iter n) b15_1) = g at ih ⊢
    simp only [infRow, len1] at e3 ih r1
    simp only [b15_1, ob15_1_1, ob15_1_2, ob15_1_3, ob15_1_4, hk, go_sem, Nat.reduceAdd, Nat.reduceMul, reduceIte, Nat.reduceLeDiff, Int.reduceLE, Int.reduceLT, Int.reduceToNat, e1, e2, e3, e4, r1, List.length_map, Nat.beq_refl, afterIt, beq_self_eq_true]
    exact ih _ _ (by rw [hp]; simp) (by simp at hm; omega) rfl
set_option maxRecDepth 100000 in
set_option maxHeartbeats 1000000 in
theorem loop15b {n : Nat} (d : Dr) (hl : d.lows.length ≤ 1000000000) : ∀ (rest pre : List St) (m : Nat) (env : Env) (H : Heap), d.lows = pre ++ rest → rest.length + 1 ≤ m →
    evGh (.keep [2, 3, 6] [100002, 100003]) env H = some ([(2, .ptr 100002 0), (3, .ptr 100003 0), (6, .int .i64 pre.length)], [(100002, .box d.cellsL), (100003, .box d.cellsL)]) →
    Ends (iter m (evCode ⟨run tab prim glob n, glob⟩ (iter n) b15_2) env H) (fun ex e h => ex = .exit 2 ∧ getT e 2 = .ptr 100002 0 ∧ getT e 3 = .ptr 100003 0 ∧ h = [(100002, .box d.cellsL), (100003, .box d.cellsL)])
  | [], pre, m + 1, env, H, hp, hm, hk => by
    have e0 : pre.length = d.lows.length := by rw [hp]; simp
    rw [iter_step]
    generalize iter m (evCode ⟨run tab prim glob n, glob⟩ (iter n) b15_2) = g
    simp only [b15_2, ob15_2_1, ob15_2_2, ob15_2_3, ob15_2_4, hk, go_sem, Nat.reduceAdd, Nat.reduceMul, reduceIte, Nat.reduceLeDiff, Int.reduceLE, Int.reduceLT, Int.reduceToNat, e0, Int.lt_irrefl, afterIt, List.length_map]
    exact Ends.of ⟨rfl, rfl, rfl, rfl⟩
  | x :: rest, pre, m + 1, env, H, hp, hm, hk => by
    have e0 : pre.length < d.lows.length := by rw [hp]; simp
    have e1 : (pre.length : Int) < (d.lows.length : Int) := by omega
    have e2 : (0 : Int) ≤ (pre.length : Int) := by omega
    have e3 := at_pre St.cells hp
    have e4 : IntKind.i64.wrap ((pre.length : Int) + 1) = ((pre.length + 1 : Nat) : Int) := cast_add (by omega)
    have ih := loop15b (n := n) d hl rest (pre ++ [x]) m
    rw [iter_step]
    generalize iter m (evCode ⟨run tab prim glob n, glob⟩ (iter n) b15_2) = g at ih ⊢
    simp only [St.cells, len1] at e3 ih
    simp only [b15_2, ob15_2_1, ob15_2_2, ob15_2_3, ob15_2_4, hk, go_sem, Nat.reduceAdd, Nat.reduceMul, reduceIte, Nat.reduceLeDiff, Int.reduceLE, Int.reduceLT, Int.reduceToNat, e1, e2, e3, e4, List.length_map, Nat.beq_refl, afterIt, beq_self_eq_true]
    exact ih _ _ (by rw [hp]; simp) (by simp at hm; omega) rfl
set_option maxRecDepth 100000 in
set_option maxHeartbeats 1000000 in
theorem loop15c {n : Nat} (d : Dr) (hl : d.opened.length ≤ 1000000000) : ∀ (rest pre : List Rw) (m : Nat) (env : Env) (H : Heap), d.opened = pre ++ rest → rest.length + 1 ≤ m →
    evGh (.keep [2, 3, 7] [100002, 100003]) env H = some ([(2, .ptr 100002 0), (3, .ptr 100003 0), (7, .int .i64 pre.length)], [(100002, .box d.cellsL), (100003, .box d.cellsL)]) →
    Ends (iter m (evCode ⟨run tab prim glob n, glob⟩ (iter n) b15_3) env H) (fun ex e h => ex = .exit 4 ∧ getT e 2 = .ptr 100002 0 ∧ getT e 3 = .ptr 100003 0 ∧ h = [(100002, .box d.cellsL), (100003, .box d.cellsL)])
  | [], pre, m + 1, env, H, hp, hm, hk => by
    have e0 : pre.length = d.opened.length := by rw [hp]; simp
    rw [iter_step]
    generalize iter m (evCode ⟨run tab prim glob n, glob⟩ (iter n) b15_3) = g
    simp only [b15_3, ob15_3_1, ob15_3_2, ob15_3_3, ob15_3_4, hk, go_sem, Nat.reduceAdd, Nat.reduceMul, reduceIte, Nat.reduceLeDiff, Int.reduceLE, Int.reduceLT, Int.reduceToNat, e0, Int.lt_irrefl, afterIt, List.length_map]
    exact Ends.of ⟨rfl, rfl, rfl, rfl⟩
  | x :: rest, pre, m + 1, env, H, hp, hm, hk => by
    have e0 : pre.length < d.opened.length := by rw [hp]; simp
    have e1 : (pre.length : Int) < (d.opened.length : Int) := by omega
    have e2 : (0 : Int) ≤ (pre.length : Int) := by omega
    have e3 := at_pre Rw.cells hp
    have e4 : IntKind.i64.wrap ((pre.length : Int) + 1) = ((pre.length + 1 : Nat) : Int) := cast_add (by omega)
    have ih := loop15c (n := n) d hl rest (pre ++ [x]) m
    rw [iter_step]
    generalize iter m (evCode ⟨run tab prim glob n, glob⟩ (iter n) b15_3) = g at ih ⊢
    simp only [Rw.cells, len1] at e3 ih
    simp only [b15_3, ob15_3_1, ob15_3_2, ob15_3_3, ob15_3_4, hk, go_sem, Nat.reduceAdd, Nat.reduceMul, reduceIte, Nat.reduceLeDiff, Int.reduceLE, Int.reduceLT, Int.reduceToNat, e1, e2, e3, e4, List.length_map, Nat.beq_refl, afterIt, beq_self_eq_true]
    exact ih _ _ (by rw [hp]; simp) (by simp at hm; omega) rfl
set_option maxRecDepth 100000 in
set_option maxHeartbeats 4000000 in
theorem equal_ok {N B : Nat} (d : Dr) (hB : B ≤ 2000000) (hd : d.small B) (hc : d.cells.length ≤ B) (hl : d.lows.length ≤ B) (hpa : d.job.parts.length ≤ B) (hN : 10 * B + 100 ≤ N) : run tab prim glob N 15 [.agg d.cellsL, .agg d.cellsL] = some (.bool true, []) := by
  obtain ⟨n, rfl⟩ : ∃ n, N = n + 1 := ⟨N - 1, by omega⟩
  rw [enters (fn := c15) rfl]
  have := hd.wait
  have := hd.jobm
  have := hd.places
  have := hd.leases
  have := hd.opened
  have r1 := plEq_ok (N := n) d.places (by omega) (by omega)
  have r2 := leEq_ok (N := n) d.leases (by omega) (by omega)
  have r3 := jobEq_ok (N := n) d (by omega) (by omega) (by omega) (by omega)
  have hL1 := fun env H h => loop15a (n := n) d hd.cells (by omega) (by omega) (by omega) d.cells [] n env H rfl (by omega) h
  have hL2 := fun env H h => loop15b (n := n) d (by omega) d.lows [] n env H rfl (by omega) h
  have hL3 := fun env H h => loop15c (n := n) d (by omega) d.opened [] n env H rfl (by omega) h
  generalize hg1 : iter n (evCode ⟨run tab prim glob n, glob⟩ (iter n) b15_1) = g1 at hL1
  generalize hg2 : iter n (evCode ⟨run tab prim glob n, glob⟩ (iter n) b15_2) = g2 at hL2
  generalize hg3 : iter n (evCode ⟨run tab prim glob n, glob⟩ (iter n) b15_3) = g3 at hL3
  simp only [c15, o15_1, o15_2, o15_3, o15_4, go_sem, Nat.reduceAdd, Nat.reduceMul, reduceIte, Nat.reduceLeDiff, Int.reduceLE, Int.reduceLT, Int.reduceToNat, mentL, ment, ment1, evGh, keepE, keepH, hg1]
  generalize hE : g1 _ _ = o
  obtain ⟨ex, env', H', rfl, rfl, q1, q2, rfl⟩ := Ends.at hL1 hE (by simp only [go_sem, Nat.reduceAdd, Nat.reduceMul, reduceIte, Nat.reduceLeDiff, Int.reduceLE, Int.reduceLT, Int.reduceToNat, mentL, ment, ment1, evGh, keepE, keepH])
  simp only [k15_3, ok15_3_1, go_sem, Nat.reduceAdd, Nat.reduceMul, reduceIte, Nat.reduceLeDiff, Int.reduceLE, Int.reduceLT, Int.reduceToNat, mentL, ment, ment1, evGh, keepE, keepH, q1, q2, hg2]
  generalize hE2 : g2 _ _ = o2
  obtain ⟨ex2, env2, H2, rfl, rfl, p1, p2, rfl⟩ := Ends.at hL2 hE2 (by simp only [go_sem, Nat.reduceAdd, Nat.reduceMul, reduceIte, Nat.reduceLeDiff, Int.reduceLE, Int.reduceLT, Int.reduceToNat, mentL, ment, ment1, evGh, keepE, keepH, q1, q2])
  simp only [k15_2, ok15_2_1, go_sem, Nat.reduceAdd, Nat.reduceMul, reduceIte, Nat.reduceLeDiff, Int.reduceLE, Int.reduceLT, Int.reduceToNat, mentL, ment, ment1, evGh, keepE, keepH, p1, p2, hg3]
  generalize hE3 : g3 _ _ = o3
  obtain ⟨ex3, env3, H3, rfl, rfl, u1, u2, rfl⟩ := Ends.at hL3 hE3 (by simp only [go_sem, Nat.reduceAdd, Nat.reduceMul, reduceIte, Nat.reduceLeDiff, Int.reduceLE, Int.reduceLT, Int.reduceToNat, mentL, ment, ment1, evGh, keepE, keepH, p1, p2])
  simp only [k15_1, ok15_1_1, go_sem, Nat.reduceAdd, Nat.reduceMul, reduceIte, Nat.reduceLeDiff, Int.reduceLE, Int.reduceLT, Int.reduceToNat, u1, u2, r1, r2, r3, St.cells, beq_self_eq_true]
set_option maxRecDepth 100000 in
theorem answerEq_ok {N : Nat} (e : Int) (hN : 3 ≤ N) : run tab prim glob N 126 [.agg [.int .i64 e, .int .i64 0, .int .i64 0, .int .i64 0, .bool false, .str [], .ro [], .str [], .bool false], .agg [.int .i64 e, .int .i64 0, .int .i64 0, .int .i64 0, .bool false, .str [], .ro [], .str [], .bool false]] = some (.bool true, []) := by
  obtain ⟨n, rfl⟩ : ∃ n, N = n + 2 := ⟨N - 2, by omega⟩
  rw [enters (n := n + 1) (fn := c126) rfl]
  rw [c126_at]
  simp only [o126_1, o126_2, o126_4, go_sem, Nat.reduceAdd, Nat.reduceMul, reduceIte, Nat.reduceLeDiff, Int.reduceLE, Int.reduceLT, Int.reduceToNat]
  rw [iter_step]
  simp only [b126_1, ob126_1_1, ob126_1_2, ob126_1_3, ob126_1_4, k126, o126_5, go_sem, Nat.reduceAdd, Nat.reduceMul, reduceIte, Nat.reduceLeDiff, Int.reduceLE, Int.reduceLT, Int.reduceToNat, mentL, ment, ment1, evGh, keepE, keepH, afterIt, Int.lt_irrefl, beq_self_eq_true]
set_option maxRecDepth 100000 in
set_option maxHeartbeats 1000000 in
theorem loop99 {n : Nat} (x0 : Ms) (hl : x0.members.length ≤ 1000000000) : ∀ (rest pre : List Int) (m : Nat) (env : Env) (H : Heap), x0.members = pre ++ rest → rest.length + 1 ≤ m →
    evGh (.keep [2, 3, 5] [100002, 100003]) env H = some ([(2, .ptr 100002 0), (3, .ptr 100003 0), (5, .int .i64 pre.length)], [(100002, .box x0.cells), (100003, .box x0.cells)]) →
    Ends (iter m (evCode ⟨run tab prim glob n, glob⟩ (iter n) b99_1) env H) (fun ex e h => ex = .exit 0 ∧ getT e 2 = .ptr 100002 0 ∧ getT e 3 = .ptr 100003 0 ∧ h = [(100002, .box x0.cells), (100003, .box x0.cells)])
  | [], pre, m + 1, env, H, hp, hm, hk => by
    have e0 : pre.length = x0.members.length := by rw [hp]; simp
    simp only [Ms.cells] at hk ⊢
    rw [iter_step]
    generalize iter m (evCode ⟨run tab prim glob n, glob⟩ (iter n) b99_1) = g
    simp only [b99_1, ob99_1_1, ob99_1_2, ob99_1_3, ob99_1_4, hk, go_sem, Nat.reduceAdd, Nat.reduceMul, reduceIte, Nat.reduceLeDiff, Int.reduceLE, Int.reduceLT, Int.reduceToNat, e0, Int.lt_irrefl, afterIt, List.length_map]
    exact Ends.of ⟨rfl, rfl, rfl, rfl⟩
  | x :: rest, pre, m + 1, env, H, hp, hm, hk => by
    have e0 : pre.length < x0.members.length := by rw [hp]; simp
    have e1 : (pre.length : Int) < (x0.members.length : Int) := by omega
    have e2 : (0 : Int) ≤ (pre.length : Int) := by omega
    have e3 := at_pre rowI hp
    have e4 : IntKind.i64.wrap ((pre.length : Int) + 1) = ((pre.length + 1 : Nat) : Int) := cast_add (by omega)
    have ih := loop99 (n := n) x0 hl rest (pre ++ [x]) m
    simp only [Ms.cells] at hk ih ⊢
    rw [iter_step]
    generalize iter m (evCode ⟨run tab prim glob n, glob⟩ (iter n) b99_1) = g at ih ⊢
    simp only [rowI, len1] at e3 ih
    simp only [b99_1, ob99_1_1, ob99_1_2, ob99_1_3, ob99_1_4, hk, go_sem, Nat.reduceAdd, Nat.reduceMul, reduceIte, Nat.reduceLeDiff, Int.reduceLE, Int.reduceLT, Int.reduceToNat, e1, e2, e3, e4, List.length_map, Nat.beq_refl, afterIt, beq_self_eq_true]
    exact ih _ _ (by rw [hp]; simp) (by simp at hm; omega) rfl
set_option maxRecDepth 100000 in
set_option maxHeartbeats 4000000 in
theorem msEq_ok {N : Nat} (x : Ms) (h1 : x.members.length ≤ 1000000000) (h2 : x.places.length ≤ 1000000000) (hN : x.members.length + x.places.length + 10 ≤ N) : run tab prim glob N 99 [.agg x.cells, .agg x.cells] = some (.bool true, []) := by
  obtain ⟨n, rfl⟩ : ∃ n, N = n + 1 := ⟨N - 1, by omega⟩
  rw [enters (fn := c99) rfl]
  have r1 := plEq_ok (N := n) x.places h2 (by omega)
  have r2 := answerEq_ok (N := n) x.err (by omega)
  have hL := fun env H h => loop99 (n := n) x h1 x.members [] n env H rfl (by omega) h
  generalize hg : iter n (evCode ⟨run tab prim glob n, glob⟩ (iter n) b99_1) = gg at hL
  simp only [Ms.cells] at hL ⊢
  rw [c99_at]
  simp only [o99_1, o99_2, o99_4, go_sem, Nat.reduceAdd, Nat.reduceMul, reduceIte, Nat.reduceLeDiff, Int.reduceLE, Int.reduceLT, Int.reduceToNat, mentL, ment, ment1, evGh, keepE, keepH, hg]
  generalize hE : gg _ _ = o
  obtain ⟨ex, env', H', rfl, rfl, q1, q2, rfl⟩ := Ends.at hL hE (by simp only [go_sem, Nat.reduceAdd, Nat.reduceMul, reduceIte, Nat.reduceLeDiff, Int.reduceLE, Int.reduceLT, Int.reduceToNat, mentL, ment, ment1, evGh, keepE, keepH])
  simp only [k99, o99_5, go_sem, Nat.reduceAdd, Nat.reduceMul, reduceIte, Nat.reduceLeDiff, Int.reduceLE, Int.reduceLT, Int.reduceToNat, q1, q2, r1, r2, beq_self_eq_true]
set_option maxRecDepth 100000 in
set_option maxHeartbeats 1000000 in
theorem loop63 {n : Nat} (l : List Ms) (hl : l.length ≤ 1000000000) (hs : ∀ x ∈ l, run tab prim glob n 99 [.agg x.cells, .agg x.cells] = some (.bool true, [])) : ∀ (rest pre : List Ms) (m : Nat) (env : Env) (H : Heap), l = pre ++ rest → rest.length + 1 ≤ m →
    evGh (.keep [0, 1, 5] []) env H = some ([(0, .ro (l.map Ms.cells)), (1, .ro (l.map Ms.cells)), (5, .int .i64 pre.length)], []) →
    Ends (iter m (evCode ⟨run tab prim glob n, glob⟩ (iter n) b63_1) env H) (fun ex _ _ => ex = .exit 0)
  | [], pre, m + 1, env, H, hp, hm, hk => by
    have e0 : pre.length = l.length := by rw [hp]; simp
    rw [iter_step]
    generalize iter m (evCode ⟨run tab prim glob n, glob⟩ (iter n) b63_1) = g
    simp only [b63_1, ob63_1_1, ob63_1_2, ob63_1_3, ob63_1_4, hk, go_sem, Nat.reduceAdd, Nat.reduceMul, reduceIte, Nat.reduceLeDiff, Int.reduceLE, Int.reduceLT, Int.reduceToNat, e0, Int.lt_irrefl, afterIt, List.length_map]
    exact Ends.of rfl
  | x :: rest, pre, m + 1, env, H, hp, hm, hk => by
    have e0 : pre.length < l.length := by rw [hp]; simp
    have e1 : (pre.length : Int) < (l.length : Int) := by omega
    have e2 : (0 : Int) ≤ (pre.length : Int) := by omega
    have e3 := at_pre Ms.cells hp
    have e4 : IntKind.i64.wrap ((pre.length : Int) + 1) = ((pre.length + 1 : Nat) : Int) := cast_add (by omega)
    have r1 := hs x (by rw [hp]; simp)
    have ih := loop63 (n := n) l hl hs rest (pre ++ [x]) m
    rw [iter_step]
    generalize iter m (evCode ⟨run tab prim glob n, glob⟩ (iter n) b63_1) = g at ih ⊢
    simp only [len1] at e3 ih r1
    simp only [b63_1, ob63_1_1, ob63_1_2, ob63_1_3, ob63_1_4, hk, go_sem, Nat.reduceAdd, Nat.reduceMul, reduceIte, Nat.reduceLeDiff, Int.reduceLE, Int.reduceLT, Int.reduceToNat, e1, e2, e3, e4, r1, ms_len, List.length_map, Nat.beq_refl, afterIt, beq_self_eq_true]
    exact ih _ _ (by rw [hp]; simp) (by simp at hm; omega) rfl
theorem said63_ok {N : Nat} (l : List Ms) (hl : l.length ≤ 1000000000) (hs : ∀ x ∈ l, run tab prim glob (N - 1) 99 [.agg x.cells, .agg x.cells] = some (.bool true, [])) (hN : l.length + 4 ≤ N) : run tab prim glob N 63 [.ro (l.map Ms.cells), .ro (l.map Ms.cells)] = some (.bool true, []) := by
  obtain ⟨n, rfl⟩ : ∃ n, N = n + 1 := ⟨N - 1, by omega⟩
  rw [enters (fn := c63) rfl]
  have hL := fun env H h => loop63 (n := n) l hl hs l [] n env H rfl (by omega) h
  simp only [c63, o63_1, o63_2, o63_3, o63_4, o63_5, go_sem, Nat.reduceAdd, Nat.reduceMul, reduceIte, Nat.reduceLeDiff, Int.reduceLE, Int.reduceLT, Int.reduceToNat, List.length_map]
  generalize iter n (evCode ⟨run tab prim glob n, glob⟩ (iter n) b63_1) = gg at hL ⊢
  generalize hE : gg _ _ = o
  obtain ⟨ex, env', H', rfl, rfl⟩ := Ends.at hL hE (by rfl)
  simp only [go_sem, Nat.reduceAdd, Nat.reduceMul, reduceIte, Nat.reduceLeDiff, Int.reduceLE, Int.reduceLT, Int.reduceToNat]
theorem said_ok {N B : Nat} (l : List Ms) (hB : B ≤ 10000000) (hl : l.length ≤ B) (h1 : ∀ x ∈ l, x.members.length ≤ B ∧ x.places.length ≤ B) (hN : 3 * B + 20 ≤ N) : run tab prim glob N 19 [.ro (l.map Ms.cells), .ro (l.map Ms.cells)] = some (.bool true, []) := by
  obtain ⟨n, rfl⟩ : ∃ n, N = n + 1 := ⟨N - 1, by omega⟩
  rw [enters (fn := c19) rfl]
  have r1 := said63_ok (N := n) l (by omega) (fun x hx => msEq_ok x (by have := h1 x hx; omega) (by have := h1 x hx; omega) (by have := h1 x hx; omega)) (by omega)
  simp only [c19, o19_1, o19_2, go_sem, Nat.reduceAdd, Nat.reduceMul, reduceIte, Nat.reduceLeDiff, Int.reduceLE, Int.reduceLT, Int.reduceToNat, r1]
end Go.Proofs.YtefoleocbhkobaaGreatDoor
namespace Go.Proofs.YtefoleocbhkobaaGreatDoor
open Go Go.Ev
set_option linter.unusedSectionVars false
set_option linter.unusedSimpArgs false
set_option linter.unusedVariables false
set_option maxRecDepth 100000 in
set_option maxHeartbeats 4000000 in
theorem tickBad_ok {N B : Nat} (d : Dr) (hf : d.right = false) (hB : B ≤ 2000000) (hd : d.small B) (hN : 10 * B + 200 ≤ N) : run tab prim glob N 17 [.agg d.cellsL] = some (.tuple [.agg d.cellsL, .ro []], []) := by
  obtain ⟨n, rfl⟩ : ∃ n, N = n + 1 := ⟨N - 1, by omega⟩
  rw [enters (fn := c17) rfl]
  have r1 := dir_ok (N := n) d hB hd (by omega)
  rw [hf] at r1
  simp only [c17, o17_1, o17_2, o17_3, o17_4, o17_5, o17_6, go_sem, Nat.reduceAdd, Nat.reduceMul, reduceIte, Nat.reduceLeDiff, Int.reduceLE, Int.reduceLT, Int.reduceToNat, r1]
theorem one_mem {d : Dr} : ∀ m ∈ oneOf d, m.members = [] ∧ m.places = [] := by
  intro m hm
  unfold oneOf at hm
  simp only at hm
  repeat (first | (split at hm) | (simp only [List.mem_singleton] at hm; subst hm; exact ⟨rfl, rfl⟩) | (cases hm))
theorem hold_mem {d : Dr} {id : Int} : ∀ m ∈ holdOf d id, m.members = [] ∧ m.places = [] := by
  intro m hm
  unfold holdOf at hm
  repeat (first | (split at hm) | (simp only [List.mem_singleton] at hm; subst hm; exact ⟨rfl, rfl⟩) | (cases hm))
theorem due_mem {d : Dr} {B : Nat} (hm0 : d.job.members.length ≤ B) : ∀ m ∈ dueOf d, m.members.length ≤ B ∧ m.places.length ≤ B := by
  intro m hm
  unfold dueOf at hm
  split at hm
  · simp only [holdsOf, List.mem_flatMap] at hm
    obtain ⟨id, _, hm⟩ := hm
    obtain ⟨h1, h2⟩ := hold_mem m hm
    rw [h1, h2]; simp
  · split at hm
    · split at hm
      · simp only [List.mem_singleton] at hm
        subst hm
        exact ⟨hm0, Nat.zero_le _⟩
      · cases hm
    · split at hm
      · cases hm
      · obtain ⟨h1, h2⟩ := one_mem m hm
        rw [h1, h2]; simp
theorem sick_mem {B : Nat} : ∀ (l : List Inf) (i : Nat), (∀ x ∈ l, x.members.length ≤ B) → ∀ m ∈ sick i l, m.members.length ≤ B ∧ m.places.length ≤ B
  | [], _, _, m, hm => by cases hm
  | x :: r, i, h, m, hm => by
    simp only [sick, List.mem_append] at hm
    rcases hm with hm | hm
    · split at hm
      · cases hm
      · simp only [List.mem_singleton] at hm
        subst hm
        exact ⟨h x (.head _), Nat.zero_le _⟩
    · exact sick_mem r (i + 1) (fun y hy => h y (.tail _ hy)) m hm
theorem asks_mem {d : Dr} {tm : St} : ∀ (k : Nat) (c : Int), ∀ m ∈ asksFrom d tm c k, m.members = [] ∧ m.places = []
  | 0, _, m, hm => by cases hm
  | k + 1, c, m, hm => by
    simp only [asksFrom, List.mem_append] at hm
    rcases hm with hm | hm
    · simp only [askOf, List.mem_cons] at hm
      rcases hm with rfl | hm
      · exact ⟨rfl, rfl⟩
      · split at hm
        · cases hm
        · simp only [List.mem_singleton] at hm; subst hm; exact ⟨rfl, rfl⟩
    · exact asks_mem k (c + 1) m hm
theorem asks_len {d : Dr} {tm : St} : ∀ (k : Nat) (c : Int), (asksFrom d tm c k).length ≤ 2 * k
  | 0, _ => Nat.le_refl _
  | k + 1, c => by
    have := asks_len (d := d) (tm := tm) k (c + 1)
    have h2 : (askOf d tm c).length ≤ 2 := by unfold askOf; split <;> simp
    simp only [asksFrom, List.length_append]; omega
theorem ticks_mem {d : Dr} {B : Nat} (hm0 : d.job.members.length ≤ B) (hc : ∀ x ∈ d.cells, x.members.length ≤ B) : ∀ m ∈ ticksOf d, m.members.length ≤ B ∧ m.places.length ≤ B := by
  intro m hm
  simp only [ticksOf, List.mem_append] at hm
  rcases hm with (hm | hm) | hm
  · exact sick_mem _ _ hc m hm
  · exact due_mem hm0 m hm
  · split at hm
    · obtain ⟨h1, h2⟩ := asks_mem _ _ m hm
      rw [h1, h2]; simp
    · cases hm
theorem ticks_len {d : Dr} : (ticksOf d).length ≤ d.cells.length + d.job.wait.length + 10 := by
  have h1 := sick_len d.cells 0
  have h2 := dueOf_len d
  have h3 : (if d.job.kind = 0 then asksFrom d d.asked 1 3 else []).length ≤ 6 := by
    split
    · exact asks_len 3 1
    · simp
  simp only [ticksOf, List.length_append]; omega
set_option maxRecDepth 100000 in
set_option maxHeartbeats 4000000 in
theorem ticks_ok {N B : Nat} (d : Dr) (hB : B ≤ 1500000) (hd : d.small B) (hc : d.cells.length ≤ B) (hl : d.lows.length ≤ B) (hpa : d.job.parts.length ≤ B) (hp2 : d.job.parts.flatten.length ≤ 140737488355328) (hN : 10 * B + 300 ≤ N) :
    run tab prim glob N 5 [.agg d.cellsL] = some (.bool true, []) := by
  obtain ⟨n, rfl⟩ : ∃ n, N = n + 1 := ⟨N - 1, by omega⟩
  rw [enters (fn := c5) rfl]
  have := hd.opened
  have r1 := ref_ok (N := n) d (by omega) (by omega) (by omega)
  obtain ⟨b, r2⟩ := small_ok (N := n) d (by omega) (by omega)
  have r4 := awake_ok (n - 60)
  rw [show n - 60 + 60 = n by omega] at r4
  have r6 := dir19_ok (N := n) d (by omega) hd (by omega)
  cases b
  · simp only [c5, o5_1, o5_2, o5_3, o5_4, o5_5, o5_6, o5_7, o5_8, go_sem, Nat.reduceAdd, Nat.reduceMul, reduceIte, Nat.reduceLeDiff, Int.reduceLE, Int.reduceLT, Int.reduceToNat, r1, r2, r4]
  · cases hr : d.right
    · have r5 := tickBad_ok (N := n) d hr (by omega) hd (by omega)
      have r7 := equal_ok (N := n) d (by omega) hd hc hl hpa (by omega)
      rw [hr] at r6
      simp only [c5, o5_1, o5_2, o5_3, o5_4, o5_5, o5_6, o5_7, o5_8, go_sem, Nat.reduceAdd, Nat.reduceMul, reduceIte, Nat.reduceLeDiff, Int.reduceLE, Int.reduceLT, Int.reduceToNat, r1, r2, r4, r5, r6, r7, Nat.beq_refl]
    · have hf := (d.fine_iff).1 hr
      rw [hr] at r6
      have r5 := tickD_ok (N := n) d hf (by omega) hd (by omega) hp2 (by omega)
      have r8 := tick19_ok (N := n) d hf (by omega) hd hpa hp2 (by omega)
      have hd1 : d.tick.small B := ⟨hd.places, hd.texts, Nat.le_trans (tickL_len d.leases) hd.leases, hd.wait, hd.jobm, hd.opened, hd.cells⟩
      have r7 := equal_ok (N := n) d.tick (by omega) hd1 hc hl hpa (by omega)
      have r9 := ref_ok (N := n) d.tick (by exact Nat.le_trans hc (by omega)) (by exact Nat.le_trans hd.opened (by omega)) (by show d.cells.length + d.opened.length + 10 ≤ n; omega)
      have r10 := said_ok (N := n) (B := 2 * B + 20) (ticksOf d.tick) (by omega) (by
        have h1 := ticks_len (d := d.tick)
        have h2 : d.tick.cells.length ≤ B := hc
        have h3 : d.tick.job.wait.length ≤ B := hd.wait
        omega) (fun m hm => by
        have := ticks_mem (B := B) (d := d.tick) hd.jobm hd.cells m hm
        omega) (by omega)
      generalize d.tick = d1 at *
      simp only [c5, o5_1, o5_2, o5_3, o5_4, o5_5, o5_6, o5_7, o5_8, go_sem, Nat.reduceAdd, Nat.reduceMul, reduceIte, Nat.reduceLeDiff, Int.reduceLE, Int.reduceLT, Int.reduceToNat, r1, r2, r4, r5, r6, r7, r8, r9, r10, Nat.beq_refl]
end Go.Proofs.YtefoleocbhkobaaGreatDoor
namespace Go.Proofs.YtefoleocbhkobaaGreatDoor
open Go Go.Ev Go.ChangeShapes Go.WideShapes Go.ChangeAt Go.RowKit
set_option linter.unusedSectionVars false
set_option linter.unusedSimpArgs false
set_option linter.unusedVariables false
set_option maxRecDepth 100000 in
theorem ticks_contract (H : Type) (enc : TypeId × Value → H) (W : World) (base : Nat) (args : Array Value) (ds gs : List (DataW H)) (before : List MemPlace)
    (hval : ∀ (j : Nat) t v, Tryz.f5.params[j]? = some t → args[j]? = some v → Value.okWide Tryz.prog W .any base t v)
    (hW : DataW.Whole enc Tryz.prog Tryz.f5.params.toList Rows.directorTicksSpec.vars false W args.toList ds gs before) (hk : Rows.uptoSmall H (ds ++ gs) = true) (hL : laidMetH Tryz.prog tables W) :
    Calls Tryz.prog 5 args W fun e W' => ∃ v, e = .returned v ∧ Rows.directorTicksSpec.post enc Tryz.prog Tryz.f5 false true false false W args v W' := by
  have hW' := hW
  obtain ⟨p, q, hA0, hV, rfl, hfz, hnd⟩ := hW
  have hA : DataW.TrodAll enc Tryz.prog W 0 (fun _ => true) true Tryz.f5.params.toList args.toList ds p := hA0
  rw [Tryz.params5] at hA hval
  obtain ⟨v0, vs0, d0, ds0, p0, q0, hargs, rfl, rfl, h0, r0⟩ := trodAll_cons hA
  obtain ⟨rfl, rfl, rfl⟩ := trodAll_nil r0
  obtain rfl : args = #[v0] := by cases args; simp_all
  obtain ⟨rfl, rfl⟩ := trodVars_none hV
  obtain ⟨f1, c1⟩ := arg_agg (n := 8) (l := shDr) Tryz.underlying36 shapes36 (hval 0 36 v0 rfl rfl) h0
  obtain ⟨d, hd⟩ := dr_of _ f1
  have hb := of_decide_eq_true hk
  simp only [List.append_nil, Rows.uptoBulkAll, Nat.add_zero] at hb
  have hB := bd_cells d0 hb
  rw [hd] at hB c1
  obtain ⟨s1, s2, s3, s4, s5⟩ := dr_small d hB
  have s6 := flat_le d.job.parts s5
  have s7 := Nat.mul_le_mul_right 1048576 s4
  obtain ⟨N, hN⟩ : ∃ N, 10 * 1048576 + 300 ≤ N := ⟨_, Nat.le_refl _⟩
  have hcall := true_any (ans (ticks_ok (N := N) d (by omega) s1 s2 s3 s4 (by omega) hN)) W #[v0] (globs hL) (.cons _ _ [] _ _ [] c1 .nil)
  simp only [List.append_nil] at hW'
  have hlt : ∀ x ∈ p0, x.block < W.heap.size := fun x hx => by simpa using hW'.lt x hx
  refine hcall.mono fun e W' ⟨he, hg⟩ => ?_
  subst he
  have hbel := below_of hg
  exact ⟨_, rfl, post_below (pa := p0) (pv := []) hW' hbel (fun _ _ _ => trodAll_cons_mk (shut_bool Tryz.underlying4 _) trodAll_mk0)
    (fun sp hsp => trodAll_mk1 (WideElems.Trod_stays (sp' := sp) laidOut (by kernel_rfl) (of_decide_eq_true (by kernel_rfl)) h0 (fun x hx => hbel.same (hlt x hx)) (fun x hx => hsp x (by simpa using hx)))) (fun _ _ => rfl) (by simp)
    (ok_one (by kernel_rfl) rfl (okWide_bool_mk Tryz.underlying4 _))⟩
set_option maxRecDepth 100000 in
theorem ticks_lifted (os : Os) (started : os.Started) (H : Type) (enc : TypeId × Value → H) (F : Stop.Interp) :
    ReturnsInHanded {} Tryz.checked os 5 .any ((Rows.OpenSpec.upto Rows.directorTicksSpec).preRow enc Tryz.prog Tryz.f5 Rows.directorTicksUptoRow.domain false Rows.directorTicksUptoRow.laid) (((Rows.OpenSpec.upto Rows.directorTicksSpec).at F).post enc Tryz.prog Tryz.f5 false true false false) := by
  have hx : ∃ places, DataW.whole enc Tryz.prog ((laidWorld os).forCall (fun _ _ => 0) ⟨#[], #[zDr], []⟩).memory Tryz.f5.params.toList Rows.directorTicksSpec.vars false #[zDr].toList 8 = some ([zDrD], [], places) := ⟨[], by kernel_rfl⟩
  obtain ⟨places, hx⟩ := hx
  refine returnsInHanded_of_row (C := Tryz.checked) (s := Rows.OpenSpec.upto Rows.directorTicksSpec) own started (by kernel_rfl) Tryz.func5
    (witness_row_at (enc := enc) (C := Tryz.checked) false (laidWorld os) #[zDr] (World.laidAll_os _ _ _) (by kernel_rfl) (by kernel_rfl) (by kernel_rfl)
      (OpenSpec.preRow_of_cond 8 hx (by kernel_rfl) (fun k hk => by cases hk; kernel_rfl) (by kernel_rfl) (laid_met os _))) ?_
  intro W base args ds gs before hval hW _ hcond _ hL _ _
  exact ticks_contract H enc W base args ds gs before hval hW (hcond _ rfl) hL
theorem ticks_said : Rows.DirectorTicksUptoSaid :=
  OpenClaim.holds_of_cond 5 Tryz.f5 rfl rfl rfl rfl rfl rfl rfl ⟨rfl, rfl, rfl, rfl, rfl⟩ rfl rfl rfl rfl rfl (by kernel_rfl) Tryz.func5 (by kernel_rfl)
    (of_decide_eq_true (by kernel_rfl)) (by unfold Func.isWrapper; first | (rw [if_pos (by decide +kernel)]; kernel_rfl) | (rw [if_neg (by decide +kernel)]; exact ⟨rfl, rfl⟩))
    (fun os started H enc _ F => by rw [OpenClaim.pre_eq_preRow]; exact ticks_lifted os started H enc F)
theorem ticks_plain (f : FuncId) (fn : Func) (hf : Tryz.pinned.checked.prog.funcNamed "stratigraph/stratigraphlaw19.DirectorTicks" = some f) (hfn : Tryz.pinned.checked.prog.funcs[f]? = some fn) :
    false = Tryz.pinned.checked.prog.looks [] ∧ ∀ (j : Nat) t, fn.params[j]? = some t → Tryz.pinned.checked.prog.wantsStandIn t = false := by
  obtain rfl : f = 5 := Option.some.inj ((show Tryz.prog.funcNamed "stratigraph/stratigraphlaw19.DirectorTicks" = some 5 by kernel_rfl).symm.trans hf) |>.symm
  obtain rfl : fn = Tryz.f5 := (Option.some.inj (Tryz.func5.symm.trans hfn)).symm
  refine ⟨by kernel_rfl, fun j t ht => ?_⟩
  rw [Tryz.params5] at ht
  obtain rfl : t = 36 := by simpa using Array.mem_of_getElem? ht
  exact (show Tryz.prog.wantsStandIn 36 = false by kernel_rfl)
theorem ticks_card : Rows.DirectorTicksUptoCardSaid :=
  Claim7.holds_tied_plain_at .later [] _ _ _ _ ticks_said (fun _ h => by cases h) (by kernel_rfl) (fun _ h => by cases h) directorTicksUpto_row_tie rfl ⟨rfl, rfl⟩ (by kernel_rfl) rfl ticks_plain (by kernel_rfl)
#print axioms ticks_card
end Go.Proofs.YtefoleocbhkobaaGreatDoor

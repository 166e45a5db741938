/-
  'stratigraphlaw19.DirectorCommands' answers true, and leaves the input as it was, wherever what it reads is of bulk at most 1048576. The tables of package unicode/utf8 are as the program's text lays them (the card ties them).
-/
import Derived.Test.YtefoleocbhkobaaGreatDoorN3x5
import Derived.Test.YtefoleocbhkobaaGreatDoorCards
import Derived.Test.YtefoleocbhkobaaGreatDoorTie
import Derived.Carry
import Derived.ProofKit
import Derived.LaidMore
import Derived.Lay
namespace Go.Proofs.YtefoleocbhkobaaGreatDoor
open Go Go.Ev
set_option linter.unusedSectionVars false
set_option linter.unusedSimpArgs false
set_option linter.unusedVariables false
abbrev sI : Sh := .int .i64
def shSt : List Sh := [sI, sI, sI]
def shPl : List Sh := [.str, .str, sI, sI, sI]
def shInf : List Sh := [sI, .slice [sI], .bool]
def shLe : List Sh := [sI, sI, sI, sI, sI]
def shRw : List Sh := [sI, sI, sI, sI, sI, sI, sI]
def shDr : List Sh := [.slice shPl, .slice shInf, sI, .slice shLe, .slice shSt, sI, sI, sI, sI, sI, sI, sI, sI, sI, sI, sI, .str, .slice [.str], sI, sI, sI, .str, .str, .slice [sI], sI, sI, sI, .slice [sI], .slice shRw]
theorem _root_.Go.Ev.Fit.i {k : IntKind} {p : PV} (h : Fit (.int k) p) : ∃ n, p = .int k n := by cases h; exact ⟨_, rfl⟩
theorem _root_.Go.Ev.Fit.b {p : PV} (h : Fit .bool p) : ∃ b, p = .bool b := by cases h; exact ⟨_, rfl⟩
theorem _root_.Go.Ev.Fit.s {p : PV} (h : Fit .str p) : ∃ s, p = .str s := by cases h; exact ⟨_, rfl⟩
theorem int_of (r : List PV) (h : FitL [sI] r) : ∃ n : Int, r = rowI n := by
  obtain ⟨p, q, rfl, h1, h2⟩ := h.cons
  obtain ⟨n, rfl⟩ := h1.i
  have := h2.done
  subst this
  exact ⟨n, rfl⟩
theorem text_of (r : List PV) (h : FitL [.str] r) : ∃ s : List UInt8, r = [.str s] := by
  obtain ⟨p, q, rfl, h1, h2⟩ := h.cons
  obtain ⟨n, rfl⟩ := h1.s
  have := h2.done
  subst this
  exact ⟨n, rfl⟩
theorem st_of (r : List PV) (h : FitL shSt r) : ∃ s : St, r = s.cells := by
  obtain ⟨_, _, rfl, g1, h1_⟩ := h.cons; obtain ⟨a, rfl⟩ := g1.i
  obtain ⟨_, _, rfl, g2, h2_⟩ := h1_.cons; obtain ⟨b, rfl⟩ := g2.i
  obtain ⟨_, _, rfl, g3, h3_⟩ := h2_.cons; obtain ⟨c, rfl⟩ := g3.i
  have := h3_.done; subst this
  exact ⟨⟨a, b, c⟩, rfl⟩
theorem pl_of (r : List PV) (h : FitL shPl r) : ∃ s : Pl, r = s.cells := by
  obtain ⟨_, _, rfl, g1, h1_⟩ := h.cons; obtain ⟨a, rfl⟩ := g1.s
  obtain ⟨_, _, rfl, g2, h2_⟩ := h1_.cons; obtain ⟨b, rfl⟩ := g2.s
  obtain ⟨_, _, rfl, g3, h3_⟩ := h2_.cons; obtain ⟨c, rfl⟩ := g3.i
  obtain ⟨_, _, rfl, g4, h4_⟩ := h3_.cons; obtain ⟨d, rfl⟩ := g4.i
  obtain ⟨_, _, rfl, g5, h5_⟩ := h4_.cons; obtain ⟨e, rfl⟩ := g5.i
  have := h5_.done; subst this
  exact ⟨⟨a, b, c, d, e⟩, rfl⟩
theorem inf_of (r : List PV) (h : FitL shInf r) : ∃ s : Inf, r = infRow s := by
  obtain ⟨_, _, rfl, g1, h1_⟩ := h.cons; obtain ⟨a, rfl⟩ := g1.i
  obtain ⟨_, _, rfl, g2, h2_⟩ := h1_.cons; obtain ⟨b, rfl⟩ := g2.rowsOf rowI int_of
  obtain ⟨_, _, rfl, g3, h3_⟩ := h2_.cons; obtain ⟨c, rfl⟩ := g3.b
  have := h3_.done; subst this
  exact ⟨⟨a, b, c⟩, rfl⟩
theorem le_of (r : List PV) (h : FitL shLe r) : ∃ s : Le, r = s.cells := by
  obtain ⟨_, _, rfl, g1, h1_⟩ := h.cons; obtain ⟨a, rfl⟩ := g1.i
  obtain ⟨_, _, rfl, g2, h2_⟩ := h1_.cons; obtain ⟨b, rfl⟩ := g2.i
  obtain ⟨_, _, rfl, g3, h3_⟩ := h2_.cons; obtain ⟨c, rfl⟩ := g3.i
  obtain ⟨_, _, rfl, g4, h4_⟩ := h3_.cons; obtain ⟨d, rfl⟩ := g4.i
  obtain ⟨_, _, rfl, g5, h5_⟩ := h4_.cons; obtain ⟨e, rfl⟩ := g5.i
  have := h5_.done; subst this
  exact ⟨⟨a, b, ⟨c, d, e⟩⟩, rfl⟩
theorem rw_of (r : List PV) (h : FitL shRw r) : ∃ s : Rw, r = s.cells := by
  obtain ⟨_, _, rfl, g1, h1_⟩ := h.cons; obtain ⟨a, rfl⟩ := g1.i
  obtain ⟨_, _, rfl, g2, h2_⟩ := h1_.cons; obtain ⟨b, rfl⟩ := g2.i
  obtain ⟨_, _, rfl, g3, h3_⟩ := h2_.cons; obtain ⟨c, rfl⟩ := g3.i
  obtain ⟨_, _, rfl, g4, h4_⟩ := h3_.cons; obtain ⟨d, rfl⟩ := g4.i
  obtain ⟨_, _, rfl, g5, h5_⟩ := h4_.cons; obtain ⟨e, rfl⟩ := g5.i
  obtain ⟨_, _, rfl, g6, h6_⟩ := h5_.cons; obtain ⟨f, rfl⟩ := g6.i
  obtain ⟨_, _, rfl, g7, h7_⟩ := h6_.cons; obtain ⟨g, rfl⟩ := g7.i
  have := h7_.done; subst this
  exact ⟨⟨a, b, c, ⟨d, e, f⟩, g⟩, rfl⟩
theorem dr_of (r : List PV) (h : FitL shDr r) : ∃ d : Dr, r = d.cellsL := by
  obtain ⟨_, _, rfl, g1, h1_⟩ := h.cons; obtain ⟨places, rfl⟩ := g1.rowsOf Pl.cells pl_of
  obtain ⟨_, _, rfl, g2, h2_⟩ := h1_.cons; obtain ⟨cells, rfl⟩ := g2.rowsOf infRow inf_of
  obtain ⟨_, _, rfl, g3, h3_⟩ := h2_.cons; obtain ⟨next, rfl⟩ := g3.i
  obtain ⟨_, _, rfl, g4, h4_⟩ := h3_.cons; obtain ⟨leases, rfl⟩ := g4.rowsOf Le.cells le_of
  obtain ⟨_, _, rfl, g5, h5_⟩ := h4_.cons; obtain ⟨lows, rfl⟩ := g5.rowsOf St.cells st_of
  obtain ⟨_, _, rfl, g6, h6_⟩ := h5_.cons; obtain ⟨m1, rfl⟩ := g6.i
  obtain ⟨_, _, rfl, g7, h7_⟩ := h6_.cons; obtain ⟨m2, rfl⟩ := g7.i
  obtain ⟨_, _, rfl, g8, h8_⟩ := h7_.cons; obtain ⟨m3, rfl⟩ := g8.i
  obtain ⟨_, _, rfl, g9, h9_⟩ := h8_.cons; obtain ⟨j1, rfl⟩ := g9.i
  obtain ⟨_, _, rfl, g10, h10_⟩ := h9_.cons; obtain ⟨j2, rfl⟩ := g10.i
  obtain ⟨_, _, rfl, g11, h11_⟩ := h10_.cons; obtain ⟨j3, rfl⟩ := g11.i
  obtain ⟨_, _, rfl, g12, h12_⟩ := h11_.cons; obtain ⟨j4, rfl⟩ := g12.i
  obtain ⟨_, _, rfl, g13, h13_⟩ := h12_.cons; obtain ⟨j5, rfl⟩ := g13.i
  obtain ⟨_, _, rfl, g14, h14_⟩ := h13_.cons; obtain ⟨j6, rfl⟩ := g14.i
  obtain ⟨_, _, rfl, g15, h15_⟩ := h14_.cons; obtain ⟨j7, rfl⟩ := g15.i
  obtain ⟨_, _, rfl, g16, h16_⟩ := h15_.cons; obtain ⟨j8, rfl⟩ := g16.i
  obtain ⟨_, _, rfl, g17, h17_⟩ := h16_.cons; obtain ⟨key, rfl⟩ := g17.s
  obtain ⟨_, _, rfl, g18, h18_⟩ := h17_.cons; obtain ⟨parts, rfl⟩ := g18.rowsOf (fun s => [.str s]) text_of
  obtain ⟨_, _, rfl, g19, h19_⟩ := h18_.cons; obtain ⟨k1, rfl⟩ := g19.i
  obtain ⟨_, _, rfl, g20, h20_⟩ := h19_.cons; obtain ⟨k2, rfl⟩ := g20.i
  obtain ⟨_, _, rfl, g21, h21_⟩ := h20_.cons; obtain ⟨k3, rfl⟩ := g21.i
  obtain ⟨_, _, rfl, g22, h22_⟩ := h21_.cons; obtain ⟨lo, rfl⟩ := g22.s
  obtain ⟨_, _, rfl, g23, h23_⟩ := h22_.cons; obtain ⟨hi, rfl⟩ := g23.s
  obtain ⟨_, _, rfl, g24, h24_⟩ := h23_.cons; obtain ⟨wait, rfl⟩ := g24.rowsOf rowI int_of
  obtain ⟨_, _, rfl, g25, h25_⟩ := h24_.cons; obtain ⟨t1, rfl⟩ := g25.i
  obtain ⟨_, _, rfl, g26, h26_⟩ := h25_.cons; obtain ⟨t2, rfl⟩ := g26.i
  obtain ⟨_, _, rfl, g27, h27_⟩ := h26_.cons; obtain ⟨t3, rfl⟩ := g27.i
  obtain ⟨_, _, rfl, g28, h28_⟩ := h27_.cons; obtain ⟨members, rfl⟩ := g28.rowsOf rowI int_of
  obtain ⟨_, _, rfl, g29, h29_⟩ := h28_.cons; obtain ⟨opened, rfl⟩ := g29.rowsOf Rw.cells rw_of
  have := h29_.done; subst this
  exact ⟨⟨places, cells, next, leases, lows, ⟨m1, m2, m3⟩, ⟨j1, j2, j3, j4, j5, j6, j7, j8, key, parts, k1, k2, k3, lo, hi, wait, ⟨t1, t2, t3⟩, members⟩, opened⟩, rfl⟩
theorem dr_small {M : Nat} (d : Dr) (h : ∀ p ∈ d.cellsL, Bd M p) : d.small M ∧ d.cells.length ≤ M ∧ d.lows.length ≤ M ∧ d.job.parts.length ≤ M ∧ ∀ t ∈ d.job.parts, t.length ≤ M := by
  simp only [Dr.cellsL, Jb.cells, List.cons_append, List.nil_append, List.mem_cons, List.not_mem_nil, or_false, forall_eq_or_imp, forall_eq] at h
  obtain ⟨a1, a2, _, a4, a5, _, _, _, _, _, _, _, _, _, _, _, _, a6, _, _, _, _, _, a7, _, _, _, a8, a9⟩ := h
  refine ⟨⟨a1.rows.1, fun p hp => ?_, a4.rows.1, a7.rows.1, a8.rows.1, a9.rows.1, fun c hc => ?_⟩, a2.rows.1, a5.rows.1, a6.rows.1, fun t ht => (a6.rows.2 t ht (.str t) (by simp)).strs⟩
  · have := a1.rows.2 p hp
    exact ⟨(this (.str p.lo) (by simp [Pl.cells])).strs, (this (.str p.hi) (by simp [Pl.cells])).strs⟩
  · exact (a2.rows.2 c hc (.ro (c.members.map rowI)) (by simp [infRow])).rows.1
theorem flat_le {M : Nat} : ∀ l : List (List UInt8), (∀ t ∈ l, t.length ≤ M) → l.flatten.length ≤ l.length * M
  | [], _ => Nat.zero_le _
  | x :: r, h => by
    have h1 := flat_le r fun t ht => h t (.tail _ ht)
    have h2 := h x (.head _)
    simp only [List.flatten_cons, List.length_append, List.length_cons, Nat.add_mul]
    omega
theorem shapes36 : shapes Tryz.prog 8 36 = some shDr := by kernel_rfl
end Go.Proofs.YtefoleocbhkobaaGreatDoor
namespace Go.Proofs.YtefoleocbhkobaaGreatDoor
open Go Go.Ev Go.ChangeShapes Go.WideShapes Go.ChangeAt Go.RowKit
set_option linter.unusedSectionVars false
set_option linter.unusedSimpArgs false
set_option linter.unusedVariables false
theorem own : ownKnob Tryz.prog.godebug = none := by kernel_rfl
theorem laidOut : laidOutB Tryz.prog = true := by kernel_rfl
theorem true_any {f : FuncId} {args : List PV} (h : AnsOK Tryz.prog glob [0, 1] f args (.bool true)) (w : World) (vs : Array Value) (hg : ∀ g ∈ [0, 1], Rep w noX noRefs (.rptr (glob g)) (.pointer (some ⟨g, 0, none⟩)))
    (hv : ListR w noX args vs.toList []) : Calls Tryz.prog f vs w fun e w' => e = .returned (.bool true) ∧ Grow w noX w' := by
  refine (h noX w vs [] (fun _ h => h.elim) (fun _ h => by cases h) List.nodup_nil hg hv).mono ?_
  rintro e w' ⟨v, rfl, hG, Z', ks', _, _, _, _, hr⟩
  refine ⟨?_, ⟨hG.size, fun k hk _ => hG.same k hk (fun h => by cases h), hG.shape, hG.os, hG.tape, hG.output, hG.froz⟩⟩
  cases hr with
  | one _ _ _ _ hc => cases hc with
    | plain _ _ _ hp => cases hp; rfl
theorem below_of {w w' : World} (h : Grow w noX w') : Below w.heap.size w w' := h.below fun _ _ h => h
theorem post_below {H : Type} {enc : TypeId × Value → H} {P : Program} {f : Func} {s : ChangeSpec} {apart fresh handsOn again : Bool} {W W' : World} {args : Array Value} {v : Value} {ds gs : List (DataW H)} {before pa pv : List MemPlace}
    (hW : DataW.Whole enc P f.params.toList s.vars apart W args.toList ds gs before) (hb : Below W.heap.size W W')
    (hres : ∀ (b : Nat) (sp : Nat → Bool) (hd : Bool), DataW.TrodAll enc P W' b sp hd f.resultTypes.toList (v.resultList f.resultTypes.size) (s.fn H (ds ++ gs)).results [])
    (hargs : ∀ sp : Nat → Bool, (∀ p ∈ before, sp p.block = true) → DataW.TrodAll enc P W' 0 sp true f.params.toList args.toList (s.fn H (ds ++ gs)).args pa)
    (hvars : ∀ sp : Nat → Bool, (∀ p ∈ before, sp p.block = true) → DataW.TrodVars enc P W' sp s.vars (s.fn H (ds ++ gs)).vars pv)
    (hps : before = pa ++ pv) (hok : ∀ (j : Nat) (t : TypeId) (r : Value), f.resultTypes[j]? = some t → (v.resultList f.resultTypes.size)[j]? = some r → Value.okWide P W' .any 0 t r) :
    s.post enc P f apart fresh handsOn again W args v W' := by
  have hlt : ∀ p ∈ before, p.block < W.heap.size := fun p hp => hW.lt p hp
  refine ⟨ds, gs, before, [], pa, pv, hW, hres _ _ _, hargs _ fun p hp => by simpa using hlt p hp, hvars _ fun p hp => by simpa using hlt p hp, World.keptBut_mono (fun p hp => ⟨hp, ?_⟩) (hb.frame (· ∈ before)), fun _ => ?_⟩
  · rw [hps, List.mem_append] at hp
    exact Or.inr hp
  · obtain ⟨_, _, _, _, _, hz, hn⟩ := hW
    refine ⟨hok, _, _, ([] ++ pa) ++ pv, ⟨[] ++ pa, pv, trodAll_append (hargs _ fun _ _ => rfl) (hres _ _ _), hvars _ fun _ _ => rfl, rfl, fun b off hp => ?_, fun ha => ?_⟩, fun p hp _ => ?_⟩
    · have hm : MemPlace.cell b off ∈ before := by rw [hps]; simpa using hp
      rw [hb.frozen (p := ⟨b, off, none⟩) (hlt _ hm)]
      exact hz b off hm
    · have := hn ha
      rw [hps] at this
      simpa using this
    · rw [hps]
      simpa using hp
theorem gFirst : Tryz.prog.globalNamed "unicode/utf8.first" = some 0 := by kernel_rfl
theorem gRanges : Tryz.prog.globalNamed "unicode/utf8.acceptRanges" = some 1 := by kernel_rfl
theorem tFirst : ∃ t, (Tryz.prog.globals[0]?).map (·.type) = some t ∧ shapes Tryz.prog 8 t = some (List.replicate 256 (.int .u8)) := by
  refine ⟨_, rfl, ?_⟩
  kernel_rfl
theorem tRanges : ∃ t, (Tryz.prog.globals[1]?).map (·.type) = some t ∧ shapes Tryz.prog 8 t = some (List.replicate 32 (.int .u8)) := by
  refine ⟨_, rfl, ?_⟩
  kernel_rfl
theorem dFirst : dcells Rows.laid_unicode_utf8_first = utf8first := by kernel_rfl
theorem dRanges : dcells (Rows.laid_unicode_utf8_acceptRanges : DataW Unit) = utf8ranges := by kernel_rfl
abbrev tables : List (String × DataW Unit) := [("unicode/utf8.acceptRanges", Rows.laid_unicode_utf8_acceptRanges), ("unicode/utf8.first", Rows.laid_unicode_utf8_first)]
theorem globs {W : World} (h : laidMetH Tryz.prog tables W) : ∀ g ∈ [0, 1], Rep W noX noRefs (.rptr (glob g)) (.pointer (some ⟨g, 0, none⟩)) := by
  rw [MakeChecks.laidMetH_plain _ _ _ (by kernel_rfl)] at h
  obtain ⟨ps, ⟨g1, t1, cs1, f1, p1, q1, hg1, ht1, hv1, hd1, ⟨g0, t0, cs0, f0, p0, q0, hg0, ht0, hv0, hd0, _, _⟩, _⟩, _, _⟩ := h
  obtain rfl := Option.some.inj (gRanges.symm.trans hg1)
  obtain rfl := Option.some.inj (gFirst.symm.trans hg0)
  obtain ⟨t, e1, s1⟩ := tRanges
  obtain rfl := Option.some.inj (e1.symm.trans ht1)
  obtain ⟨t, e0, s0⟩ := tFirst
  obtain rfl := Option.some.inj (e0.symm.trans ht0)
  have r1 := var_rep gRanges s1 hv1 hd1
  have r0 := var_rep gFirst s0 hv0 hd0
  rw [dRanges] at r1
  rw [dFirst] at r0
  intro g hg
  simp only [List.mem_cons, List.not_mem_nil, or_false] at hg
  rcases hg with rfl | rfl
  · exact r0
  · exact r1
noncomputable abbrev laidWorld (os : Os) : World := World.laidAll Tryz.prog os tables
theorem laid_met (os : Os) (args : Array Value) : laidMetH Tryz.prog tables ((laidWorld os).forCall (fun _ _ => 0) ⟨#[], args, []⟩).memory := by
  rw [MakeChecks.laidMetH_plain _ _ _ (by kernel_rfl)]
  exact laidMet_laidAll _ (by kernel_rfl) (by kernel_rfl)
def vNil : Value := .slice none 0 0
def vI : Value := .int .i64 0
def vS : Value := .string ⟨#[]⟩
def zDr : Value := .agg #[vNil, vNil, vI, vNil, vNil, vI, vI, vI, vI, vI, vI, vI, vI, vI, vI, vI, vS, vNil, vI, vI, vI, vS, vS, vNil, vI, vI, vI, vNil, vNil]
def lI {H : Type} : DataW H := .lit (.int .i64 0)
def lS {H : Type} : DataW H := .lit (.string [])
def zDrD {H : Type} : DataW H := .agg [.nil, .nil, lI, .nil, .nil, .agg [lI, lI, lI], .agg [lI, lI, lI, lI, lI, lI, lI, lI, lS, .nil, lI, lI, lI, .agg [lS, lS], .nil, .agg [lI, lI, lI], .nil], .nil]
end Go.Proofs.YtefoleocbhkobaaGreatDoor
namespace Go.Proofs.YtefoleocbhkobaaGreatDoor
open Go Go.Ev
set_option linter.unusedSectionVars false
set_option linter.unusedSimpArgs false
set_option linter.unusedVariables false
def icmp (a b : Int) : Int := if a < b then -1 else if b < a then 1 else 0
def or3 (x y z : Int) : Int := if x = 0 then (if y = 0 then z else y) else x
def St.cmp (a b : St) : Int := or3 (icmp a.wall b.wall) (icmp a.tick b.tick) (icmp a.node b.node)
def St.lt (a b : St) : Bool := if a.wall = b.wall then (if a.tick = b.tick then decide (a.node < b.node) else decide (a.tick < b.tick)) else decide (a.wall < b.wall)
def St.later (a b : St) : St := if a.lt b = true then b else a
def St.sooner (a b : St) : St := if b.lt a = true then b else a
theorem icmp_neg (a b : Int) : icmp a b < 0 ↔ a < b := by
  unfold icmp; split
  · omega
  · split <;> omega
theorem icmp_pos (a b : Int) : 0 < icmp a b ↔ b < a := by
  unfold icmp; split
  · omega
  · split <;> omega
theorem icmp_zero (a b : Int) : icmp a b = 0 ↔ a = b := by
  unfold icmp; split
  · omega
  · split <;> omega
theorem cmp_neg (a b : St) : a.cmp b < 0 ↔ a.lt b = true := by
  unfold St.cmp St.lt or3
  simp only [icmp_zero]
  split
  · split
    · rw [icmp_neg]; simp
    · rw [icmp_neg]; simp
  · rw [icmp_neg]; simp
theorem cmp_pos (a b : St) : 0 < a.cmp b ↔ b.lt a = true := by
  unfold St.cmp St.lt or3
  simp only [icmp_zero]
  by_cases h1 : a.wall = b.wall
  · by_cases h2 : a.tick = b.tick
    · simp [h1, h2, icmp_pos]
    · have h2' : ¬ b.tick = a.tick := fun h => h2 h.symm
      simp [h1, h2, h2', icmp_pos]
  · have h1' : ¬ b.wall = a.wall := fun h => h1 h.symm
    simp [h1, h1', icmp_pos]
theorem nan_ok {N : Nat} (hN : 1 ≤ N) (a : Int) : run tab prim glob N 116 [.int .i64 a] = some (.bool false, []) := by
  obtain ⟨n, rfl⟩ : ∃ n, N = n + 1 := ⟨N - 1, by omega⟩
  rw [enters (fn := c116) rfl]
  simp only [c116, o116_1, o116_2, go_sem, Nat.reduceAdd, Nat.reduceMul, reduceIte, Nat.reduceLeDiff, Int.reduceLE, Int.reduceLT, Int.reduceToNat]
theorem cmpI_ok {N : Nat} (hN : 2 ≤ N) (a b : Int) : run tab prim glob N 75 [.int .i64 a, .int .i64 b] = some (.int .i64 (icmp a b), []) := by
  obtain ⟨n, rfl⟩ : ∃ n, N = n + 1 := ⟨N - 1, by omega⟩
  rw [enters (fn := c75) rfl]
  have r : ∀ x, run tab prim glob n 116 [.int .i64 x] = some (.bool false, []) := fun x => nan_ok (by omega) x
  by_cases h1_ : a < b
  · simp only [go_sem, Nat.reduceAdd, Nat.reduceMul, reduceIte, Nat.reduceLeDiff, Int.reduceLE, Int.reduceLT, Int.reduceToNat, c75, o75_1, o75_2, o75_3, o75_4, o75_5, o75_6, o75_7, o75_8, o75_9, o75_10, o75_11, o75_12, o75_13, o75_14, r, icmp, h1_, Int.not_le.2 h1_]
  · by_cases h2_ : b < a
    · simp only [go_sem, Nat.reduceAdd, Nat.reduceMul, reduceIte, Nat.reduceLeDiff, Int.reduceLE, Int.reduceLT, Int.reduceToNat, c75, o75_1, o75_2, o75_3, o75_4, o75_5, o75_6, o75_7, o75_8, o75_9, o75_10, o75_11, o75_12, o75_13, o75_14, r, icmp, h1_, Int.not_lt.1 h1_, h2_, Int.not_le.2 h2_]
    · simp only [go_sem, Nat.reduceAdd, Nat.reduceMul, reduceIte, Nat.reduceLeDiff, Int.reduceLE, Int.reduceLT, Int.reduceToNat, c75, o75_1, o75_2, o75_3, o75_4, o75_5, o75_6, o75_7, o75_8, o75_9, o75_10, o75_11, o75_12, o75_13, o75_14, r, icmp, h1_, Int.not_lt.1 h1_, h2_, Int.not_lt.1 h2_]
theorem or_ok {N : Nat} (hN : 6 ≤ N) (x y z : Int) : run tab prim glob N 74 [.ro [[.int .i64 x], [.int .i64 y], [.int .i64 z]]] = some (.int .i64 (or3 x y z), []) := by
  obtain ⟨n, rfl⟩ : ∃ n, N = n + 6 := ⟨N - 6, by omega⟩
  rw [enters (n := n + 5) (fn := c74) rfl]
  simp only [c74, o74_1, o74_2, o74_3, o74_4, go_sem, Nat.reduceAdd, Nat.reduceMul, reduceIte, Nat.reduceLeDiff, Int.reduceLE, Int.reduceLT, Int.reduceToNat]
  have w1 : IntKind.i64.wrap ((0 : Int) + 1) = 1 := by decide
  have w2 : IntKind.i64.wrap ((1 : Int) + 1) = 2 := by decide
  have w3 : IntKind.i64.wrap ((2 : Int) + 1) = 3 := by decide
  rw [iter_step]
  by_cases h1 : x = 0
  · simp only [b74_1, ob74_1_1, ob74_1_2, ob74_1_3, ob74_1_4, ob74_1_5, go_sem, Nat.reduceAdd, Nat.reduceMul, reduceIte, Nat.reduceLeDiff, Int.reduceLE, Int.reduceLT, Int.reduceToNat, mentL, ment, ment1, evGh, keepE, keepH, afterIt, h1, w1]
    rw [iter_step]
    by_cases h2 : y = 0
    · simp only [b74_1, ob74_1_1, ob74_1_2, ob74_1_3, ob74_1_4, ob74_1_5, go_sem, Nat.reduceAdd, Nat.reduceMul, reduceIte, Nat.reduceLeDiff, Int.reduceLE, Int.reduceLT, Int.reduceToNat, mentL, ment, ment1, evGh, keepE, keepH, afterIt, h2, w2]
      rw [iter_step]
      by_cases h3 : z = 0
      · simp only [b74_1, ob74_1_1, ob74_1_2, ob74_1_3, ob74_1_4, ob74_1_5, go_sem, Nat.reduceAdd, Nat.reduceMul, reduceIte, Nat.reduceLeDiff, Int.reduceLE, Int.reduceLT, Int.reduceToNat, mentL, ment, ment1, evGh, keepE, keepH, afterIt, h3, w3]
        rw [iter_step]
        simp only [b74_1, ob74_1_1, ob74_1_2, ob74_1_3, ob74_1_4, ob74_1_5, go_sem, Nat.reduceAdd, Nat.reduceMul, reduceIte, Nat.reduceLeDiff, Int.reduceLE, Int.reduceLT, Int.reduceToNat, mentL, ment, ment1, evGh, keepE, keepH, afterIt, or3]
      · simp only [b74_1, ob74_1_1, ob74_1_2, ob74_1_3, ob74_1_4, ob74_1_5, go_sem, Nat.reduceAdd, Nat.reduceMul, reduceIte, Nat.reduceLeDiff, Int.reduceLE, Int.reduceLT, Int.reduceToNat, mentL, ment, ment1, evGh, keepE, keepH, afterIt, h3, or3]
    · simp only [b74_1, ob74_1_1, ob74_1_2, ob74_1_3, ob74_1_4, ob74_1_5, go_sem, Nat.reduceAdd, Nat.reduceMul, reduceIte, Nat.reduceLeDiff, Int.reduceLE, Int.reduceLT, Int.reduceToNat, mentL, ment, ment1, evGh, keepE, keepH, afterIt, h2, or3]
  · simp only [b74_1, ob74_1_1, ob74_1_2, ob74_1_3, ob74_1_4, ob74_1_5, go_sem, Nat.reduceAdd, Nat.reduceMul, reduceIte, Nat.reduceLeDiff, Int.reduceLE, Int.reduceLT, Int.reduceToNat, mentL, ment, ment1, evGh, keepE, keepH, afterIt, h1, or3]
theorem compare_ok {N : Nat} (hN : 8 ≤ N) (a b : St) : run tab prim glob N 24 [.agg a.cells, .agg b.cells] = some (.int .i64 (a.cmp b), []) := by
  obtain ⟨n, rfl⟩ : ∃ n, N = n + 1 := ⟨N - 1, by omega⟩
  rw [enters (fn := c24) rfl]
  have r1 : ∀ x y, run tab prim glob n 75 [.int .i64 x, .int .i64 y] = some (.int .i64 (icmp x y), []) := fun x y => cmpI_ok (by omega) x y
  have r2 := fun x y z => or_ok (N := n) (by omega) x y z
  simp only [c24, o24_1, o24_2, St.cells, go_sem, Nat.reduceAdd, Nat.reduceMul, reduceIte, Nat.reduceLeDiff, Int.reduceLE, Int.reduceLT, Int.reduceToNat, r1, r2, St.cmp]
theorem soonerP_ok {N : Nat} (hN : 9 ≤ N) (a b : St) : run tab prim glob N 76 [.agg a.cells, .agg b.cells] = some (.agg (a.sooner b).cells, []) := by
  obtain ⟨n, rfl⟩ : ∃ n, N = n + 1 := ⟨N - 1, by omega⟩
  rw [enters (fn := c76) rfl]
  have r1 := compare_ok (N := n) (by omega) a b
  have hs : a.sooner b = if 0 < a.cmp b then b else a := by unfold St.sooner; simp only [cmp_pos]
  rw [hs]
  simp only [St.cells] at r1 ⊢
  by_cases h1_ : 0 < a.cmp b
  · simp only [go_sem, Nat.reduceAdd, Nat.reduceMul, reduceIte, Nat.reduceLeDiff, Int.reduceLE, Int.reduceLT, Int.reduceToNat, c76, o76_1, o76_2, o76_3, o76_4, r1, h1_, Int.not_le.2 h1_]
  · simp only [go_sem, Nat.reduceAdd, Nat.reduceMul, reduceIte, Nat.reduceLeDiff, Int.reduceLE, Int.reduceLT, Int.reduceToNat, c76, o76_1, o76_2, o76_3, o76_4, r1, h1_, Int.not_lt.1 h1_]
theorem before_ok {N : Nat} (hN : 1 ≤ N) (a b : St) : run tab prim glob N 98 [.agg a.cells, .agg b.cells] = some (.bool (a.lt b), []) := by
  obtain ⟨n, rfl⟩ : ∃ n, N = n + 1 := ⟨N - 1, by omega⟩
  rw [enters (fn := c98) rfl]
  by_cases h1_ : a.wall = b.wall
  · by_cases h2_ : a.tick = b.tick
    · simp only [go_sem, Nat.reduceAdd, Nat.reduceMul, reduceIte, Nat.reduceLeDiff, Int.reduceLE, Int.reduceLT, Int.reduceToNat, c98, o98_1, o98_2, o98_3, o98_4, o98_5, o98_6, St.cells, St.lt, h1_, h2_]
    · simp only [go_sem, Nat.reduceAdd, Nat.reduceMul, reduceIte, Nat.reduceLeDiff, Int.reduceLE, Int.reduceLT, Int.reduceToNat, c98, o98_1, o98_2, o98_3, o98_4, o98_5, o98_6, St.cells, St.lt, h1_, h2_]
  · simp only [go_sem, Nat.reduceAdd, Nat.reduceMul, reduceIte, Nat.reduceLeDiff, Int.reduceLE, Int.reduceLT, Int.reduceToNat, c98, o98_1, o98_2, o98_3, o98_4, o98_5, o98_6, St.cells, St.lt, h1_]
theorem later05_ok {N : Nat} (hN : 2 ≤ N) (a b : St) : run tab prim glob N 61 [.agg a.cells, .agg b.cells] = some (.agg (a.later b).cells, []) := by
  obtain ⟨n, rfl⟩ : ∃ n, N = n + 1 := ⟨N - 1, by omega⟩
  rw [enters (fn := c61) rfl]
  have r1 := before_ok (N := n) (by omega) a b
  unfold St.later
  simp only [St.cells] at r1 ⊢
  by_cases h1_ : a.lt b = true
  · simp only [go_sem, Nat.reduceAdd, Nat.reduceMul, reduceIte, Nat.reduceLeDiff, Int.reduceLE, Int.reduceLT, Int.reduceToNat, c61, o61_1, o61_2, o61_3, o61_4, r1, Bool.not_eq_true, Bool.false_eq_true, h1_]
  · simp only [go_sem, Nat.reduceAdd, Nat.reduceMul, reduceIte, Nat.reduceLeDiff, Int.reduceLE, Int.reduceLT, Int.reduceToNat, c61, o61_1, o61_2, o61_3, o61_4, r1, Bool.not_eq_true, Bool.false_eq_true, h1_]
theorem sooner05_ok {N : Nat} (hN : 2 ≤ N) (a b : St) : run tab prim glob N 62 [.agg a.cells, .agg b.cells] = some (.agg (a.sooner b).cells, []) := by
  obtain ⟨n, rfl⟩ : ∃ n, N = n + 1 := ⟨N - 1, by omega⟩
  rw [enters (fn := c62) rfl]
  have r1 := before_ok (N := n) (by omega) b a
  unfold St.sooner
  simp only [St.cells] at r1 ⊢
  by_cases h1_ : b.lt a = true
  · simp only [go_sem, Nat.reduceAdd, Nat.reduceMul, reduceIte, Nat.reduceLeDiff, Int.reduceLE, Int.reduceLT, Int.reduceToNat, c62, o62_1, o62_2, o62_3, o62_4, r1, Bool.not_eq_true, Bool.false_eq_true, h1_]
  · simp only [go_sem, Nat.reduceAdd, Nat.reduceMul, reduceIte, Nat.reduceLeDiff, Int.reduceLE, Int.reduceLT, Int.reduceToNat, c62, o62_1, o62_2, o62_3, o62_4, r1, Bool.not_eq_true, Bool.false_eq_true, h1_]
end Go.Proofs.YtefoleocbhkobaaGreatDoor
namespace Go.Proofs.YtefoleocbhkobaaGreatDoor
open Go Go.Ev
set_option linter.unusedSectionVars false
set_option linter.unusedSimpArgs false
set_option linter.unusedVariables false
theorem at_pre {X : Type} {l pre rest : List X} {x : X} (c : X → List PV) (h : l = pre ++ x :: rest) : (l.map c)[pre.length]? = some (c x) := by rw [h]; simp
theorem take_map {X : Type} (l : List X) (c : X → List PV) : List.take l.length (l.map c) = l.map c := List.take_of_length_le (by simp)
theorem len1 {X : Type} (l : List X) (y : X) : (l ++ [y]).length = l.length + 1 := by simp
def tickL : List Le → List Le
  | [] => []
  | x :: r => if 1 < x.left then ⟨x.id, x.left - 1, x.tm⟩ :: tickL r else tickL r
theorem tickL_len : ∀ l : List Le, (tickL l).length ≤ l.length
  | [] => Nat.le_refl _
  | x :: r => by
    have := tickL_len r
    unfold tickL; split <;> simp <;> omega
theorem left_of : ∀ (l : List Le) (last : Int), leasesFrom last l = true → ∀ x ∈ l, 1 ≤ x.left ∧ x.left ≤ 20
  | [], _, _, _, h => by cases h
  | x :: r, last, h, y, hy => by
    simp only [leasesFrom, Bool.and_eq_true, decide_eq_true_eq] at h
    rcases List.mem_cons.1 hy with rfl | hy
    · exact ⟨h.1.1.1.2, h.1.1.2⟩
    · exact left_of r _ h.2 y hy
theorem left_right {l : List Le} (h : leasesRight l = true) : ∀ x ∈ l, 1 ≤ x.left ∧ x.left ≤ 20 := by
  simp only [leasesRight, Bool.and_eq_true] at h
  exact left_of l 0 h.1
theorem loop54 {n : Nat} (l : List Le) (hl : l.length ≤ 2000000) (hr : ∀ x ∈ l, 1 ≤ x.left ∧ x.left ≤ 20) : ∀ (rest pre acc : List Le) (m : Nat) (env : Env) (H : Heap), l = pre ++ rest → acc.length ≤ pre.length → rest.length + 1 ≤ m →
    evGh (.keep [3, 9, 10, 11] [300003]) env H = some ([(3, .own 300003 0 acc.length acc.length), (9, .ro (l.map Le.cells)), (10, .int .i64 l.length), (11, .int .i64 pre.length)], [(300003, .arr 5 (acc.map Le.cells))]) →
    iter m (evCode ⟨run tab prim glob n, glob⟩ (iter n) b54_1) env H = some (.exit 0, [(12, .bool false), (3, .own 300003 0 (acc ++ tickL rest).length (acc ++ tickL rest).length), (9, .ro (l.map Le.cells)), (10, .int .i64 l.length), (11, .int .i64 l.length)],
      [(300003, .arr 5 ((acc ++ tickL rest).map Le.cells))])
  | [], pre, acc, m + 1, env, H, hp, ha, hm, hk => by
    have e0 : pre = l := by rw [hp]; simp
    subst e0
    rw [iter_step]
    generalize iter m (evCode ⟨run tab prim glob n, glob⟩ (iter n) b54_1) = g
    simp only [b54_1, ob54_1_1, ob54_1_2, ob54_1_3, ob54_1_4, ob54_1_5, ob54_1_6, hk, go_sem, Nat.reduceAdd, Nat.reduceMul, reduceIte, Nat.reduceLeDiff, Int.reduceLE, Int.reduceLT, Int.reduceToNat, Int.lt_irrefl, afterIt, tickL, List.append_nil]
  | x :: rest, pre, acc, m + 1, env, H, hp, ha, hm, hk => by
    have e0 : pre.length < l.length := by rw [hp]; simp
    have e1 : (pre.length : Int) < (l.length : Int) := by omega
    have e2 : (0 : Int) ≤ (pre.length : Int) := by omega
    have e3 := at_pre Le.cells hp
    have e4 : IntKind.i64.wrap ((pre.length : Int) + 1) = ((pre.length + 1 : Nat) : Int) := cast_add (by omega)
    obtain ⟨x1, x2⟩ := hr x (by rw [hp]; simp)
    have e5 : IntKind.i64.wrap (x.left - 1) = x.left - 1 := IntWalk.i64_in _ (by omega)
    have e6 : ¬ acc.length + 1 ≤ acc.length := by omega
    have e7 : (acc.length + 1) * 40 ≤ 140737488355328 := by omega
    have ih := fun acc => loop54 (n := n) l hl hr rest (pre ++ [x]) acc m
    rw [iter_step]
    generalize iter m (evCode ⟨run tab prim glob n, glob⟩ (iter n) b54_1) = g at ih ⊢
    by_cases h : 1 < x.left
    · have ih := ih (acc ++ [⟨x.id, x.left - 1, x.tm⟩])
      have h1 : 0 < x.left - 1 := by omega
      simp only [len1, List.map_append, List.map_cons, List.map_nil, Le.cells] at ih e3
      simp only [b54_1, ob54_1_1, ob54_1_2, ob54_1_3, ob54_1_4, ob54_1_5, ob54_1_6, hk, go_sem, Nat.reduceAdd, Nat.reduceMul, reduceIte, Nat.reduceLeDiff, Int.reduceLE, Int.reduceLT, Int.reduceToNat, e1, e2, e3, e4, e5, e6, e7, h1, List.length_map, Nat.beq_refl, afterIt, tickL, h]
      rw [ih _ _ (by rw [hp]; simp) (by omega) (by simp at hm; omega) rfl]
      simp [Le.cells, Nat.add_assoc, Nat.add_comm]
    · have ih := ih acc
      have h1 : ¬ 0 < x.left - 1 := by omega
      simp only [len1, Le.cells] at ih e3
      simp only [b54_1, ob54_1_1, ob54_1_2, ob54_1_3, ob54_1_4, ob54_1_5, ob54_1_6, hk, go_sem, Nat.reduceAdd, Nat.reduceMul, reduceIte, Nat.reduceLeDiff, Int.reduceLE, Int.reduceLT, Int.reduceToNat, e1, e2, e3, e4, e5, h1, List.length_map, Nat.beq_refl, afterIt, tickL, h]
      exact ih _ _ (by rw [hp]; simp) (by omega) (by simp at hm; omega) rfl
theorem tickP_ok {N : Nat} (l : List Le) (hl : l.length ≤ 2000000) (hr : leasesRight l = true) (hN : l.length + 8 ≤ N) : run tab prim glob N 54 [.ro (l.map Le.cells)] = some (.ro ((tickL l).map Le.cells), []) := by
  obtain ⟨n, rfl⟩ : ∃ n, N = n + 1 := ⟨N - 1, by omega⟩
  rw [enters (fn := c54) rfl]
  have r1 := leaseR_ok (N := n) l hl (by omega)
  rw [hr] at r1
  have hL := fun env H h => loop54 (n := n) l hl (left_right hr) l [] [] n env H rfl (by simp) (by omega) h
  generalize hg : iter n (evCode ⟨run tab prim glob n, glob⟩ (iter n) b54_1) = g at hL
  simp only [c54, o54_1, o54_2, o54_3, o54_4, o54_5, o54_6, go_sem, Nat.reduceAdd, Nat.reduceMul, reduceIte, Nat.reduceLeDiff, Int.reduceLE, Int.reduceLT, Int.reduceToNat, mentL, ment, ment1, evGh, keepE, keepH, r1, hg, List.length_map]
  rw [hL _ _ (by simp only [go_sem, Nat.reduceAdd, Nat.reduceMul, reduceIte, Nat.reduceLeDiff, Int.reduceLE, Int.reduceLT, Int.reduceToNat, mentL, ment, ment1, evGh, keepE, keepH])]
  simp only [go_sem, Nat.reduceAdd, Nat.reduceMul, reduceIte, Nat.reduceLeDiff, Int.reduceLE, Int.reduceLT, Int.reduceToNat, Nat.beq_refl, List.length_map, take_map]
theorem loop58 {n : Nat} (l : List Le) (hl : l.length ≤ 2000000) (hr : ∀ x ∈ l, 1 ≤ x.left ∧ x.left ≤ 20) : ∀ (rest pre acc : List Le) (m : Nat) (env : Env) (H : Heap), l = pre ++ rest → acc.length ≤ pre.length → rest.length + 1 ≤ m →
    evGh (.keep [0, 3, 4] [300003]) env H = some ([(0, .ro (l.map Le.cells)), (3, .own 300003 0 acc.length acc.length), (4, .int .i64 pre.length)], [(300003, .arr 5 (acc.map Le.cells))]) →
    Ends (iter m (evCode ⟨run tab prim glob n, glob⟩ (iter n) b58_1) env H) (fun ex e h => ex = .exit 0 ∧ getT e 3 = .own 300003 0 (acc ++ tickL rest).length (acc ++ tickL rest).length ∧ h = [(300003, .arr 5 ((acc ++ tickL rest).map Le.cells))])
  | [], pre, acc, m + 1, env, H, hp, ha, hm, hk => by
    have e0 : pre = l := by rw [hp]; simp
    subst e0
    rw [iter_step]
    generalize iter m (evCode ⟨run tab prim glob n, glob⟩ (iter n) b58_1) = g
    simp only [b58_1, ob58_1_1, ob58_1_2, ob58_1_3, ob58_1_4, hk, go_sem, Nat.reduceAdd, Nat.reduceMul, reduceIte, Nat.reduceLeDiff, Int.reduceLE, Int.reduceLT, Int.reduceToNat, Int.lt_irrefl, afterIt, tickL, List.append_nil, List.length_map]
    exact Ends.of ⟨rfl, rfl, rfl⟩
  | x :: rest, pre, acc, m + 1, env, H, hp, ha, hm, hk => by
    have e0 : pre.length < l.length := by rw [hp]; simp
    have e1 : (pre.length : Int) < (l.length : Int) := by omega
    have e2 : (0 : Int) ≤ (pre.length : Int) := by omega
    have e3 := at_pre Le.cells hp
    have e4 : IntKind.i64.wrap ((pre.length : Int) + 1) = ((pre.length + 1 : Nat) : Int) := cast_add (by omega)
    obtain ⟨x1, x2⟩ := hr x (by rw [hp]; simp)
    have e5 : IntKind.i64.wrap (x.left - 1) = x.left - 1 := IntWalk.i64_in _ (by omega)
    have e6 : ¬ acc.length + 1 ≤ acc.length := by omega
    have e7 : (acc.length + 1) * 40 ≤ 140737488355328 := by omega
    have ih := fun acc => loop58 (n := n) l hl hr rest (pre ++ [x]) acc m
    rw [iter_step]
    generalize iter m (evCode ⟨run tab prim glob n, glob⟩ (iter n) b58_1) = g at ih ⊢
    by_cases h : 1 < x.left
    · have ih := ih (acc ++ [⟨x.id, x.left - 1, x.tm⟩])
      have e9 : acc ++ tickL (x :: rest) = acc ++ [⟨x.id, x.left - 1, x.tm⟩] ++ tickL rest := by simp [tickL, h]
      rw [e9]
      simp only [len1, List.map_append, List.map_cons, List.map_nil, Le.cells] at ih e3 ⊢
      simp only [b58_1, ob58_1_1, ob58_1_2, ob58_1_3, ob58_1_4, hk, go_sem, Nat.reduceAdd, Nat.reduceMul, reduceIte, Nat.reduceLeDiff, Int.reduceLE, Int.reduceLT, Int.reduceToNat, e1, e2, e3, e4, e5, e6, e7, List.length_map, Nat.beq_refl, afterIt, tickL, h]
      exact ih _ _ (by rw [hp]; simp) (by omega) (by simp at hm; omega) rfl
    · have ih := ih acc
      simp only [len1, Le.cells] at ih e3
      simp only [b58_1, ob58_1_1, ob58_1_2, ob58_1_3, ob58_1_4, hk, go_sem, Nat.reduceAdd, Nat.reduceMul, reduceIte, Nat.reduceLeDiff, Int.reduceLE, Int.reduceLT, Int.reduceToNat, e1, e2, e3, e4, List.length_map, Nat.beq_refl, afterIt, tickL, h]
      exact ih _ _ (by rw [hp]; simp) (by omega) (by simp at hm; omega) rfl
theorem tick16_ok {N : Nat} (l : List Le) (hl : l.length ≤ 2000000) (hr : leasesRight l = true) (hN : l.length + 8 ≤ N) : run tab prim glob N 58 [.ro (l.map Le.cells)] = some (.ro ((tickL l).map Le.cells), []) := by
  obtain ⟨n, rfl⟩ : ∃ n, N = n + 1 := ⟨N - 1, by omega⟩
  rw [enters (fn := c58) rfl]
  have hL := fun env H h => loop58 (n := n) l hl (left_right hr) l [] [] n env H rfl (by simp) (by omega) h
  generalize hg : iter n (evCode ⟨run tab prim glob n, glob⟩ (iter n) b58_1) = g at hL
  simp only [c58, o58_1, o58_2, o58_3, o58_4, go_sem, Nat.reduceAdd, Nat.reduceMul, reduceIte, Nat.reduceLeDiff, Int.reduceLE, Int.reduceLT, Int.reduceToNat, mentL, ment, ment1, evGh, keepE, keepH, hg]
  generalize hE : g _ _ = o
  obtain ⟨ex, env', H', rfl, rfl, h2, rfl⟩ := Ends.at hL hE (by simp only [go_sem, Nat.reduceAdd, Nat.reduceMul, reduceIte, Nat.reduceLeDiff, Int.reduceLE, Int.reduceLT, Int.reduceToNat, mentL, ment, ment1, evGh, keepE, keepH])
  simp only [go_sem, Nat.reduceAdd, Nat.reduceMul, reduceIte, Nat.reduceLeDiff, Int.reduceLE, Int.reduceLT, Int.reduceToNat, h2, Nat.beq_refl, List.length_map, take_map]
def least (s : St) : List Le → St
  | [] => s
  | x :: r => least (s.sooner x.tm) r
def greatest (s : St) : List St → St
  | [] => s
  | x :: r => greatest (s.later x) r
theorem later_self (s : St) : s.later s = s := by unfold St.later; split <;> rfl
theorem sooner_self (s : St) : s.sooner s = s := by unfold St.sooner; split <;> rfl
theorem loop25 {n : Nat} (l : List Le) (hl : l.length ≤ 2000000) (hn : 20 ≤ n) (z : St) : ∀ (rest pre : List Le) (s : St) (m : Nat) (env : Env) (H : Heap), l = pre ++ rest → rest.length + 1 ≤ m →
    evGh (.keep [2, 4, 20, 21, 22] [100002, 100004]) env H = some ([(2, .ptr 100002 0), (4, .ptr 100004 0), (20, .ro (l.map Le.cells)), (21, .int .i64 l.length), (22, .int .i64 pre.length)], [(100002, .box z.cells), (100004, .box s.cells)]) →
    iter m (evCode ⟨run tab prim glob n, glob⟩ (iter n) b25_1) env H = some (.exit 0, [(23, .bool false), (2, .ptr 100002 0), (4, .ptr 100004 0), (20, .ro (l.map Le.cells)), (21, .int .i64 l.length), (22, .int .i64 l.length)], [(100002, .box z.cells), (100004, .box (least s rest).cells)])
  | [], pre, s, m + 1, env, H, hp, hm, hk => by
    have e0 : pre = l := by rw [hp]; simp
    subst e0
    rw [iter_step]
    generalize iter m (evCode ⟨run tab prim glob n, glob⟩ (iter n) b25_1) = g
    simp only [b25_1, ob25_1_1, ob25_1_2, ob25_1_3, ob25_1_4, hk, go_sem, Nat.reduceAdd, Nat.reduceMul, reduceIte, Nat.reduceLeDiff, Int.reduceLE, Int.reduceLT, Int.reduceToNat, Int.lt_irrefl, afterIt, least]
  | x :: rest, pre, s, m + 1, env, H, hp, hm, hk => by
    have e0 : pre.length < l.length := by rw [hp]; simp
    have e1 : (pre.length : Int) < (l.length : Int) := by omega
    have e2 : (0 : Int) ≤ (pre.length : Int) := by omega
    have e3 := at_pre Le.cells hp
    have e4 : IntKind.i64.wrap ((pre.length : Int) + 1) = ((pre.length + 1 : Nat) : Int) := cast_add (by omega)
    have r1 := soonerP_ok (N := n) (by omega) s x.tm
    have ih := loop25 (n := n) l hl hn z rest (pre ++ [x]) (s.sooner x.tm) m
    rw [iter_step]
    generalize iter m (evCode ⟨run tab prim glob n, glob⟩ (iter n) b25_1) = g at ih ⊢
    simp only [List.length_append, List.length_cons, List.length_nil, Le.cells, St.cells] at hk ih e3 r1 ⊢
    simp only [b25_1, ob25_1_1, ob25_1_2, ob25_1_3, ob25_1_4, hk, go_sem, Nat.reduceAdd, Nat.reduceMul, reduceIte, Nat.reduceLeDiff, Int.reduceLE, Int.reduceLT, Int.reduceToNat, e1, e2, e3, e4, r1, List.length_map, Nat.beq_refl, afterIt, least]
    exact ih _ _ (by rw [hp]; simp) (by simp at hm; omega) rfl
def z0 : St := ⟨0, 0, 0⟩
def leastOf : List Le → St
  | [] => z0
  | x :: r => least x.tm (x :: r)
theorem least_ok {N : Nat} (l : List Le) (hl : l.length ≤ 2000000) (hr : leasesRight l = true) (hN : l.length + 30 ≤ N) : run tab prim glob N 25 [.ro (l.map Le.cells)] = some (.tuple [.agg (leastOf l).cells, .bool (decide (0 < l.length))], []) := by
  obtain ⟨n, rfl⟩ : ∃ n, N = n + 1 := ⟨N - 1, by omega⟩
  rw [enters (fn := c25) rfl]
  have r1 := leaseR_ok (N := n) l hl (by omega)
  rw [hr] at r1
  cases l with
  | nil =>
    simp only [List.map_nil] at r1 ⊢
    simp only [c25, o25_1, o25_2, o25_3, o25_4, o25_5, o25_6, go_sem, Nat.reduceAdd, Nat.reduceMul, reduceIte, Nat.reduceLeDiff, Int.reduceLE, Int.reduceLT, Int.reduceToNat, r1, leastOf, z0, St.cells, Nat.lt_irrefl]
  | cons x t =>
    have hL := fun env H h => loop25 (n := n) (x :: t) hl (by omega) z0 (x :: t) [] x.tm n env H rfl (by omega) h
    generalize hg : iter n (evCode ⟨run tab prim glob n, glob⟩ (iter n) b25_1) = g at hL
    have n1 : ((((x :: t).length : Nat) : Int) = 0) = False := by simp; omega
    have n2 : 0 < (x :: t).length := by simp
    simp only [z0, St.cells, List.map_cons, Le.cells] at hL r1 ⊢
    simp only [List.length_cons] at n1 n2 hL
    simp only [c25, o25_1, o25_2, o25_3, o25_4, o25_5, o25_6, go_sem, Nat.reduceAdd, Nat.reduceMul, reduceIte, Nat.reduceLeDiff, Int.reduceLE, Int.reduceLT, Int.reduceToNat, mentL, ment, ment1, evGh, keepE, keepH, r1, n1, n2, hg, List.length_map, List.length_cons]
    rw [hL _ _ (by simp only [go_sem, Nat.reduceAdd, Nat.reduceMul, reduceIte, Nat.reduceLeDiff, Int.reduceLE, Int.reduceLT, Int.reduceToNat, mentL, ment, ment1, evGh, keepE, keepH])]
    simp only [go_sem, Nat.reduceAdd, Nat.reduceMul, reduceIte, Nat.reduceLeDiff, Int.reduceLE, Int.reduceLT, Int.reduceToNat, leastOf, St.cells, List.length_cons, n2]
theorem loop56 {n : Nat} (l : List St) (hl : l.length ≤ 2000000) (hn : 20 ≤ n) (z : St) : ∀ (rest pre : List St) (s : St) (m : Nat) (env : Env) (H : Heap), l = pre ++ rest → rest.length + 1 ≤ m →
    evGh (.keep [0, 1, 4, 5, 6] [100004, 100005]) env H = some ([(0, .ro (l.map St.cells)), (1, .func 24 []), (4, .ptr 100004 0), (5, .ptr 100005 0), (6, .int .i64 pre.length)], [(100004, .box z.cells), (100005, .box s.cells)]) →
    Ends (iter m (evCode ⟨run tab prim glob n, glob⟩ (iter n) b56_1) env H) (fun ex e h => ex = .exit 0 ∧ getT e 4 = .ptr 100004 0 ∧ getT e 5 = .ptr 100005 0 ∧ h = [(100004, .box z.cells), (100005, .box (greatest s rest).cells)])
  | [], pre, s, m + 1, env, H, hp, hm, hk => by
    have e0 : pre = l := by rw [hp]; simp
    subst e0
    rw [iter_step]
    generalize iter m (evCode ⟨run tab prim glob n, glob⟩ (iter n) b56_1) = g
    simp only [b56_1, ob56_1_1, ob56_1_2, ob56_1_3, ob56_1_4, hk, go_sem, Nat.reduceAdd, Nat.reduceMul, reduceIte, Nat.reduceLeDiff, Int.reduceLE, Int.reduceLT, Int.reduceToNat, Int.lt_irrefl, afterIt, greatest, List.length_map]
    exact Ends.of ⟨rfl, rfl, rfl, rfl⟩
  | x :: rest, pre, s, m + 1, env, H, hp, hm, hk => by
    have e0 : pre.length < l.length := by rw [hp]; simp
    have e1 : (pre.length : Int) < (l.length : Int) := by omega
    have e2 : (0 : Int) ≤ (pre.length : Int) := by omega
    have e3 := at_pre St.cells hp
    have e4 : IntKind.i64.wrap ((pre.length : Int) + 1) = ((pre.length + 1 : Nat) : Int) := cast_add (by omega)
    have r1 := compare_ok (N := n) (by omega) x s
    have ih := loop56 (n := n) l hl hn z rest (pre ++ [x]) (s.later x) m
    have hp2 := cmp_pos x s
    rw [iter_step]
    generalize iter m (evCode ⟨run tab prim glob n, glob⟩ (iter n) b56_1) = g at ih ⊢
    simp only [List.length_append, List.length_cons, List.length_nil, St.cells] at hk ih e3 r1 ⊢
    by_cases h : 0 < x.cmp s
    · have h1 := hp2.1 h
      simp only [b56_1, ob56_1_1, ob56_1_2, ob56_1_3, ob56_1_4, hk, go_sem, Nat.reduceAdd, Nat.reduceMul, reduceIte, Nat.reduceLeDiff, Int.reduceLE, Int.reduceLT, Int.reduceToNat, e1, e2, e3, e4, r1, h, List.length_map, Nat.beq_refl, afterIt, greatest]
      exact ih _ _ (by rw [hp]; simp) (by simp at hm; omega) (by simp only [St.later, h1, if_true]; rfl)
    · have h1 : ¬ s.lt x = true := fun h2 => h (hp2.2 h2)
      simp only [b56_1, ob56_1_1, ob56_1_2, ob56_1_3, ob56_1_4, hk, go_sem, Nat.reduceAdd, Nat.reduceMul, reduceIte, Nat.reduceLeDiff, Int.reduceLE, Int.reduceLT, Int.reduceToNat, e1, e2, e3, e4, r1, h, List.length_map, Nat.beq_refl, afterIt, greatest]
      exact ih _ _ (by rw [hp]; simp) (by simp at hm; omega) (by simp only [St.later, if_neg h1]; rfl)
theorem max_ok {N : Nat} (x : St) (t : List St) (hl : t.length ≤ 1000000) (hN : t.length + 30 ≤ N) : run tab prim glob N 56 [.ro ((x :: t).map St.cells), .func 24 []] = some (.agg (greatest x t).cells, []) := by
  obtain ⟨n, rfl⟩ : ∃ n, N = n + 1 := ⟨N - 1, by omega⟩
  rw [enters (fn := c56) rfl]
  have hL := fun env H h => loop56 (n := n) (x :: t) (by simp; omega) (by omega) z0 t [x] x n env H rfl (by omega) h
  generalize hg : iter n (evCode ⟨run tab prim glob n, glob⟩ (iter n) b56_1) = g at hL
  have n1 : ¬ (((x :: t).length : Nat) : Int) < 1 := by simp; omega
  simp only [z0, St.cells, List.map_cons, List.length_cons, List.length_nil] at hL n1 ⊢
  simp only [c56, o56_1, o56_2, o56_3, o56_4, o56_5, o56_6, go_sem, Nat.reduceAdd, Nat.reduceMul, reduceIte, Nat.reduceLeDiff, Int.reduceLE, Int.reduceLT, Int.reduceToNat, mentL, ment, ment1, evGh, keepE, keepH, n1, hg, List.length_map, List.length_cons]
  generalize hE : g _ _ = o
  obtain ⟨ex, env', H', rfl, rfl, h2, h3, rfl⟩ := Ends.at hL hE (by simp only [go_sem, Nat.reduceAdd, Nat.reduceMul, reduceIte, Nat.reduceLeDiff, Int.reduceLE, Int.reduceLT, Int.reduceToNat, mentL, ment, ment1, evGh, keepE, keepH])
  simp only [go_sem, Nat.reduceAdd, Nat.reduceMul, reduceIte, Nat.reduceLeDiff, Int.reduceLE, Int.reduceLT, Int.reduceToNat, h2, h3]
end Go.Proofs.YtefoleocbhkobaaGreatDoor
namespace Go.Proofs.YtefoleocbhkobaaGreatDoor
open Go Go.Ev
set_option linter.unusedSectionVars false
set_option linter.unusedSimpArgs false
set_option linter.unusedVariables false
section
variable (d : Dr) (j : Jb)
@[go_sem] theorem dr_clo (H : Heap) : cloL H d.cellsL = some (d.cellsL, []) := rfl
@[go_sem] theorem jr_clo (H : Heap) : cloL H j.cells = some (j.cells, []) := rfl
@[go_sem] theorem dr_ment (ids : List Nat) : mentL ids d.cellsL = true := rfl
@[go_sem] theorem jr_ment (ids : List Nat) : mentL ids j.cells = true := rfl
@[go_sem] theorem rz_len : refZ.length = 29 := rfl
@[go_sem] theorem rz_spl : splice refZ 0 d.cellsL = d.cellsL := rfl
@[go_sem] theorem rz_ment (ids : List Nat) : mentL ids refZ = true := rfl
@[go_sem] theorem dr_take : List.take 29 d.cellsL = d.cellsL := rfl
@[go_sem] theorem rz_drop : List.drop 29 refZ = [] := rfl
@[go_sem] theorem dl : d.cellsL.length = 29 := rfl
@[go_sem high] theorem dr_all : rdc d.cellsL 0 29 true = some (.agg d.cellsL) := rfl
@[go_sem high] theorem dr_mark : rdc d.cellsL 5 3 true = some (.agg d.mark.cells) := rfl
@[go_sem high] theorem dr_job : rdc d.cellsL 8 20 true = some (.agg d.job.cells) := rfl
@[go_sem high] theorem dr_tm : rdc d.cellsL 24 3 true = some (.agg d.job.tm.cells) := rfl
@[go_sem] theorem dc0 : d.cellsL[0]? = some (.ro (d.places.map Pl.cells)) := rfl
@[go_sem] theorem dc1 : d.cellsL[1]? = some (.ro (d.cells.map infRow)) := rfl
@[go_sem] theorem dc2 : d.cellsL[2]? = some (.int .i64 d.next) := rfl
@[go_sem] theorem dc3 : d.cellsL[3]? = some (.ro (d.leases.map Le.cells)) := rfl
@[go_sem] theorem dc4 : d.cellsL[4]? = some (.ro (d.lows.map St.cells)) := rfl
@[go_sem] theorem dc8 : d.cellsL[8]? = some (.int .i64 d.job.kind) := rfl
@[go_sem] theorem dc9 : d.cellsL[9]? = some (.int .i64 d.job.step) := rfl
@[go_sem] theorem dc10 : d.cellsL[10]? = some (.int .i64 d.job.id) := rfl
@[go_sem] theorem dc23 : d.cellsL[23]? = some (.ro (d.job.wait.map rowI)) := rfl
@[go_sem] theorem dc28 : d.cellsL[28]? = some (.ro (d.opened.map Rw.cells)) := rfl
@[go_sem] theorem jl : j.cells.length = 20 := rfl
@[go_sem high] theorem jr_all : rdc j.cells 0 20 true = some (.agg j.cells) := rfl
@[go_sem high] theorem jr_tm : rdc j.cells 16 3 true = some (.agg j.tm.cells) := rfl
@[go_sem] theorem jc0 : j.cells[0]? = some (.int .i64 j.kind) := rfl
@[go_sem] theorem jc1 : j.cells[1]? = some (.int .i64 j.step) := rfl
@[go_sem] theorem jc2 : j.cells[2]? = some (.int .i64 j.id) := rfl
@[go_sem] theorem jc3 : j.cells[3]? = some (.int .i64 j.shard) := rfl
@[go_sem] theorem jc4 : j.cells[4]? = some (.int .i64 j.other) := rfl
@[go_sem] theorem jc5 : j.cells[5]? = some (.int .i64 j.cell) := rfl
@[go_sem] theorem jc6 : j.cells[6]? = some (.int .i64 j.to) := rfl
@[go_sem] theorem jc7 : j.cells[7]? = some (.int .i64 j.epoch) := rfl
@[go_sem] theorem jc8 : j.cells[8]? = some (.str j.key) := rfl
@[go_sem] theorem jc9 : j.cells[9]? = some (.ro (j.parts.map fun s => [.str s])) := rfl
@[go_sem] theorem jc10 : j.cells[10]? = some (.int .i64 j.part) := rfl
@[go_sem] theorem jc11 : j.cells[11]? = some (.int .i64 j.client) := rfl
@[go_sem] theorem jc12 : j.cells[12]? = some (.int .i64 j.req) := rfl
@[go_sem] theorem jc15 : j.cells[15]? = some (.ro (j.wait.map rowI)) := rfl
@[go_sem] theorem jc19 : j.cells[19]? = some (.ro (j.members.map rowI)) := rfl
end
def Inf.lead (x : Inf) : Int := x.members.headD 0
def Dr.lead (d : Dr) (c : Int) : Int := ((d.cells[(c - 1).toNat]?).map Inf.lead).getD 0
def Dr.led (d : Dr) : Prop := ∀ c : Int, 1 ≤ c → c ≤ 3 → ∃ x m r, d.cells[(c - 1).toNat]? = some x ∧ x.members = m :: r
theorem lead_ok {N : Nat} (d : Dr) (hd : d.led) (c : Int) (h1 : 1 ≤ c) (h3 : c ≤ 3) (hN : 1 ≤ N) : run tab prim glob N 57 [.agg d.cellsL, .int .i64 c] = some (.int .i64 (d.lead c), []) := by
  obtain ⟨n, rfl⟩ : ∃ n, N = n + 1 := ⟨N - 1, by omega⟩
  rw [enters (fn := c57) rfl]
  obtain ⟨x, m, r, hx, hm⟩ := hd c h1 h3
  have e1 : IntKind.i64.wrap (c - 1) = c - 1 := IntWalk.i64_in _ (by omega)
  have e2 : 0 ≤ c - 1 := by omega
  have e3 : (d.cells.map infRow)[(c - 1).toNat]? = some [.int .i64 x.view, .ro (x.members.map rowI), .bool x.whole] := by rw [List.getElem?_map, hx]; rfl
  have e4 : d.lead c = m := by unfold Dr.lead; rw [hx]; simp [Inf.lead, hm]
  rw [hm] at e3
  simp only [c57, o57_1, o57_2, go_sem, Nat.reduceAdd, Nat.reduceMul, reduceIte, Nat.reduceLeDiff, Int.reduceLE, Int.reduceLT, Int.reduceToNat, e1, e2, e3, e4, rowI]
theorem lead19_ok {N : Nat} (d : Dr) (hd : d.led) (c : Int) (h1 : 1 ≤ c) (h3 : c ≤ 3) (hN : 1 ≤ N) : run tab prim glob N 59 [.agg d.cellsL, .int .i64 c] = some (.int .i64 (d.lead c), []) := by
  obtain ⟨n, rfl⟩ : ∃ n, N = n + 1 := ⟨N - 1, by omega⟩
  rw [enters (fn := c59) rfl]
  obtain ⟨x, m, r, hx, hm⟩ := hd c h1 h3
  have e1 : IntKind.i64.wrap (c - 1) = c - 1 := IntWalk.i64_in _ (by omega)
  have e2 : 0 ≤ c - 1 := by omega
  have e3 : (d.cells.map infRow)[(c - 1).toNat]? = some [.int .i64 x.view, .ro (x.members.map rowI), .bool x.whole] := by rw [List.getElem?_map, hx]; rfl
  have e4 : d.lead c = m := by unfold Dr.lead; rw [hx]; simp [Inf.lead, hm]
  rw [hm] at e3
  simp only [c59, o59_1, o59_2, go_sem, Nat.reduceAdd, Nat.reduceMul, reduceIte, Nat.reduceLeDiff, Int.reduceLE, Int.reduceLT, Int.reduceToNat, e1, e2, e3, e4, rowI]
abbrev isId (id : Int) : Pl → Bool := fun p => decide (p.shard = id)
def ofPl (l : List Pl) (id : Int) : Option Pl := l.find? (isId id)
theorem idx_find (f : Pl → Bool) : ∀ (l : List Pl) (i : Nat), (l.find? f = none ∧ idxFrom f i l = -1) ∨ ∃ p k, l.find? f = some p ∧ idxFrom f i l = ((i + k : Nat) : Int) ∧ l[k]? = some p
  | [], i => .inl ⟨rfl, rfl⟩
  | x :: r, i => by
    cases h : f x
    · rcases idx_find f r (i + 1) with ⟨h1, h2⟩ | ⟨p, k, h1, h2, h3⟩
      · exact .inl ⟨by simp [h, h1], by simp [idxFrom, h, h2]⟩
      · exact .inr ⟨p, k + 1, by simp [h, h1], by simp [idxFrom, h, h2]; omega, by simpa using h3⟩
    · exact .inr ⟨x, 0, by simp [h], by simp [idxFrom, h], rfl⟩
theorem same119_ok {N : Nat} (hN : 1 ≤ N) (p : Pl) (id : Int) : run tab prim glob N 119 [.agg p.cells, .rptr [.int .i64 id]] = some (.bool (isId id p), []) := by
  obtain ⟨n, rfl⟩ : ∃ n, N = n + 1 := ⟨N - 1, by omega⟩
  rw [enters (fn := c119) rfl]
  simp only [c119, o119_1, o119_2, Pl.cells, go_sem, Nat.reduceAdd, Nat.reduceMul, reduceIte, Nat.reduceLeDiff, Int.reduceLE, Int.reduceLT, Int.reduceToNat]
theorem at_ok {N : Nat} (l : List Pl) (hl : l.length ≤ 1000000000) (id : Int) (hN : l.length + 6 ≤ N) : run tab prim glob N 89 [.ro (l.map Pl.cells), .int .i64 id] = some (.int .i64 (idxFrom (isId id) 0 l), []) := by
  obtain ⟨n, rfl⟩ : ∃ n, N = n + 1 := ⟨N - 1, by omega⟩
  rw [enters (fn := c89) rfl]
  have h1 := index_ok (N := n) l hl 119 [.int .i64 id] (isId id) (fun p _ => same119_ok (by omega) p id) (by omega)
  simp only [c89, o89_1, o89_2, go_sem, Nat.reduceAdd, Nat.reduceMul, reduceIte, Nat.reduceLeDiff, Int.reduceLE, Int.reduceLT, Int.reduceToNat, h1]
def p0 : Pl := ⟨[], [], 0, 0, 0⟩
def ofRes (o : Option Pl) : PV := match o with | some p => .tuple [.agg p.cells, .bool true] | none => .tuple [.agg p0.cells, .bool false]
theorem of_ok {N B : Nat} (l : List Pl) (hB : B ≤ 1000000000) (hl : l.length ≤ B) (hs : ∀ p ∈ l, p.small B) (hr : placesRight l = true) (id : Int) (hN : 10 * B + 80 ≤ N) : run tab prim glob N 47 [.ro (l.map Pl.cells), .int .i64 id] = some (ofRes (ofPl l id), []) := by
  obtain ⟨n, rfl⟩ : ∃ n, N = n + 1 := ⟨N - 1, by omega⟩
  rw [enters (fn := c47) rfl]
  have r1 := at_ok (N := n) l (by omega) id (by omega)
  have r2 := places_ok (N := n) l hB hl hs (by omega)
  rw [hr] at r2
  unfold ofPl
  rcases idx_find (isId id) l 0 with ⟨h1, h2⟩ | ⟨p, k, h1, h2, h3⟩
  · rw [h2] at r1
    have e1 : ((-1 : Int) < 0) := by decide
    simp only [c47, o47_1, o47_2, o47_3, o47_4, o47_5, go_sem, Nat.reduceAdd, Nat.reduceMul, reduceIte, Nat.reduceLeDiff, Int.reduceLE, Int.reduceLT, Int.reduceToNat, r1, r2, h1, ofRes, p0, Pl.cells, e1]
  · rw [h2] at r1
    rw [Nat.zero_add] at r1
    have e1 : ¬ ((k : Int) < 0) := by omega
    have e2 : (0 : Int) ≤ (k : Int) := by omega
    have e3 : (l.map Pl.cells)[k]? = some p.cells := by rw [List.getElem?_map, h3]; rfl
    simp only [Pl.cells] at e3
    simp only [c47, o47_1, o47_2, o47_3, o47_4, o47_5, go_sem, Nat.reduceAdd, Nat.reduceMul, reduceIte, Nat.reduceLeDiff, Int.reduceLE, Int.reduceLT, Int.reduceToNat, r1, r2, h1, ofRes, Pl.cells, e1, e2, e3]
theorem loop53 {n : Nat} (l : List Pl) (hl : l.length ≤ 1000000000) (id : Int) : ∀ (rest pre : List Pl) (m : Nat) (env : Env) (H : Heap), l = pre ++ rest → rest.length + 1 ≤ m →
    evGh (.keep [0, 1, 5] []) env H = some ([(0, .ro (l.map Pl.cells)), (1, .int .i64 id), (5, .int .i64 pre.length)], []) →
    Ends (iter m (evCode ⟨run tab prim glob n, glob⟩ (iter n) b53_1) env H) (fun ex e _ => if idxFrom (isId id) pre.length rest = -1 then ex = .exit 0 else ex = .ret ∧ getT e 4 = .int .i64 (idxFrom (isId id) pre.length rest))
  | [], pre, m + 1, env, H, hp, hm, hk => by
    have e1 : pre.length = l.length := by rw [hp]; simp
    rw [iter_step]
    generalize iter m (evCode ⟨run tab prim glob n, glob⟩ (iter n) b53_1) = g
    simp only [b53_1, ob53_1_1, ob53_1_2, ob53_1_3, ob53_1_4, hk, go_sem, Nat.reduceAdd, Nat.reduceMul, reduceIte, Nat.reduceLeDiff, Int.reduceLE, Int.reduceLT, Int.reduceToNat, e1, Int.lt_irrefl, afterIt, idxFrom, List.length_map]
    exact Ends.of rfl
  | x :: rest, pre, m + 1, env, H, hp, hm, hk => by
    have e0 : pre.length < l.length := by rw [hp]; simp
    have e1 : (pre.length : Int) < (l.length : Int) := by omega
    have e2 : (0 : Int) ≤ (pre.length : Int) := by omega
    have e3 := at_pre Pl.cells hp
    have e4 : IntKind.i64.wrap ((pre.length : Int) + 1) = ((pre.length + 1 : Nat) : Int) := cast_add (by omega)
    have ih := loop53 (n := n) l hl id rest (pre ++ [x]) m
    rw [iter_step]
    generalize iter m (evCode ⟨run tab prim glob n, glob⟩ (iter n) b53_1) = gg at ih ⊢
    simp only [Pl.cells] at e3
    by_cases k1 : x.shard = id
    · have e5 : ¬ ((pre.length : Int) = -1) := by omega
      simp only [b53_1, ob53_1_1, ob53_1_2, ob53_1_3, ob53_1_4, hk, go_sem, Nat.reduceAdd, Nat.reduceMul, reduceIte, Nat.reduceLeDiff, Int.reduceLE, Int.reduceLT, Int.reduceToNat, e1, e2, e3, e4, afterIt, idxFrom, isId, k1, e5, List.length_map]
      exact Ends.of ⟨rfl, rfl⟩
    · simp only [b53_1, ob53_1_1, ob53_1_2, ob53_1_3, ob53_1_4, hk, go_sem, Nat.reduceAdd, Nat.reduceMul, reduceIte, Nat.reduceLeDiff, Int.reduceLE, Int.reduceLT, Int.reduceToNat, e1, e2, e3, e4, afterIt, idxFrom, isId, k1, List.length_map]
      rw [show pre.length + 1 = (pre ++ [x]).length by simp]
      simp only [Bool.false_eq_true, if_false]
      refine ih _ _ (by rw [hp]; simp) (by simp at hm; omega) ?_
      rfl
theorem at15_ok {N : Nat} (l : List Pl) (hl : l.length ≤ 1000000000) (id : Int) (hN : l.length + 4 ≤ N) : run tab prim glob N 53 [.ro (l.map Pl.cells), .int .i64 id] = some (.int .i64 (idxFrom (isId id) 0 l), []) := by
  obtain ⟨n, rfl⟩ : ∃ n, N = n + 1 := ⟨N - 1, by omega⟩
  rw [enters (fn := c53) rfl]
  have hL := fun env H h => loop53 (n := n) l hl id l [] n env H rfl (by omega) h
  simp only [c53, o53_1, o53_2, o53_3, go_sem, Nat.reduceAdd, Nat.reduceMul, reduceIte, Nat.reduceLeDiff, Int.reduceLE, Int.reduceLT, Int.reduceToNat]
  generalize iter n (evCode ⟨run tab prim glob n, glob⟩ (iter n) b53_1) = gg at hL ⊢
  generalize hE : gg _ _ = o
  obtain ⟨ex, env', H', rfl, h5⟩ := Ends.at hL hE (by rfl)
  rw [show ([] : List Pl).length = 0 from rfl] at h5
  split at h5
  · rename_i h6
    subst h5
    rw [h6]
    simp only [go_sem, Nat.reduceAdd, Nat.reduceMul, reduceIte, Nat.reduceLeDiff, Int.reduceLE, Int.reduceLT, Int.reduceToNat]
  · obtain ⟨rfl, h6⟩ := h5
    simp only [go_sem, Nat.reduceAdd, Nat.reduceMul, reduceIte, Nat.reduceLeDiff, Int.reduceLE, Int.reduceLT, Int.reduceToNat, h6]
end Go.Proofs.YtefoleocbhkobaaGreatDoor
namespace Go.Proofs.YtefoleocbhkobaaGreatDoor
open Go Go.Ev
set_option linter.unusedSectionVars false
set_option linter.unusedSimpArgs false
set_option linter.unusedVariables false
theorem rows_szok {X : Type} (n : Nat) (c : X → List PV) (h : ∀ x, (c x).length = n) : ∀ l : List X, szOK n (l.map c) = true
  | [] => rfl
  | x :: r => by simp only [List.map_cons, szOK, h x, Nat.beq_refl, rows_szok n c h r]
@[go_sem] theorem int_szok (l : List Int) : szOK 1 (l.map rowI) = true := rows_szok 1 rowI (fun _ => rfl) l
@[go_sem] theorem le_szok (l : List Le) : szOK 5 (l.map Le.cells) = true := rows_szok 5 Le.cells (fun _ => rfl) l
@[go_sem] theorem pl_szok (l : List Pl) : szOK 5 (l.map Pl.cells) = true := rows_szok 5 Pl.cells (fun _ => rfl) l
theorem clone_ok {N : Nat} (hN : 1 ≤ N) (l : List Int) (hl : l.length ≤ 1000000000) : run tab prim glob N 43 [.ro (l.map rowI)] = some (.fresh 1 (l.map rowI), []) := by
  obtain ⟨n, rfl⟩ : ∃ n, N = n + 1 := ⟨N - 1, by omega⟩
  have e : run tab prim glob (n + 1) 43 [.ro (l.map rowI)] = primC glob (lookC clonesL) 43 [.ro (l.map rowI)] := rfl
  have e2 : lookC clonesL 43 = some (c43, .fresh 1 []) := rfl
  rw [e]
  cases l with
  | nil => rfl
  | cons x r =>
    have e3 : primC glob (lookC clonesL) 43 [.ro ((x :: r).map rowI)] = evFn ⟨fun _ _ => none, glob⟩ (iter 0) c43 [.ro ((x :: r).map rowI)] := by
      unfold primC; rw [e2]; rfl
    rw [e3]
    have h1 : ((x :: r).map rowI).length * 8 ≤ 140737488355328 := by simp at hl ⊢; omega
    have h3 := take_map (x :: r) rowI
    simp only [List.map_cons, List.length_map, List.length_cons, rowI] at h1 h3 ⊢
    simp only [c43, o43_1, o43_2, o43_3, o43_4, go_sem, Nat.reduceAdd, Nat.reduceMul, reduceIte, Nat.reduceLeDiff, Int.reduceLE, Int.reduceLT, Int.reduceToNat, h1, h3, List.length_map, Nat.beq_refl]
structure Dr.Fine (d : Dr) : Prop where
  places : placesRight d.places = true
  leases : leasesRight d.leases = true
  cells : ∃ x1 x2 x3 s1 s2 s3, d.cells = [x1, x2, x3] ∧ d.lows = [s1, s2, s3] ∧ cellRight x1 s1 = true ∧ cellRight x2 s2 = true ∧ cellRight x3 s3 = true
  next2 : 2 ≤ d.next
  next40 : d.next ≤ 1099511627776
  mark : d.mark.right = true
  job : d.job.right = true
  opened8 : d.opened.length ≤ 8
  opened : rowsFrom 0 d.opened = true
theorem Dr.fine_iff (d : Dr) : d.right = true ↔ d.Fine := by
  unfold Dr.right
  simp only [Bool.and_eq_true, decide_eq_true_eq]
  constructor
  · rintro ⟨⟨⟨⟨⟨⟨⟨⟨⟨⟨h1, h2⟩, h3⟩, h4⟩, h5⟩, h6⟩, h7⟩, h8⟩, h9⟩, h10⟩, h11⟩
    refine ⟨h1, h2, ?_, h5, h6, h7, h8, by omega, h11⟩
    match hc : d.cells, hl : d.lows, h3, h4 with
    | [x1, x2, x3], [s1, s2, s3], _, _ =>
      rw [hc, hl] at h10
      simp only [cellsFrom, Bool.and_eq_true] at h10
      exact ⟨x1, x2, x3, s1, s2, s3, rfl, rfl, h10.1, h10.2.1, h10.2.2.1⟩
  · rintro ⟨h1, h2, ⟨x1, x2, x3, s1, s2, s3, hc, hl, c1, c2, c3⟩, h5, h6, h7, h8, h9, h11⟩
    refine ⟨⟨⟨⟨⟨⟨⟨⟨⟨⟨h1, h2⟩, by rw [hc]; rfl⟩, by rw [hl]; rfl⟩, h5⟩, h6⟩, h7⟩, h8⟩, by omega⟩, ?_⟩, h11⟩
    rw [hc, hl]
    simp only [cellsFrom, c1, c2, c3, o3_1, o3_2, o3_3, o3_4, o3_5, o3_6, o3_7, Bool.and_self]
theorem cell_fine {c : Inf} {s : St} (h : cellRight c s = true) : 1 ≤ c.view ∧ c.view ≤ 1099511627776 ∧ stores c.members = true ∧ s.right = true := by
  simp only [cellRight, rng, Bool.and_eq_true, decide_eq_true_eq] at h
  exact ⟨h.1.1.1, h.1.1.2, h.1.2, h.2⟩
theorem stores_cons {l : List Int} (h : stores l = true) : ∃ m r, l = m :: r := by
  cases l with
  | nil => simp [stores] at h
  | cons m r => exact ⟨m, r, rfl⟩
theorem Dr.Fine.cell {d : Dr} (h : d.Fine) (c : Int) (h1 : 1 ≤ c) (h3 : c ≤ 3) : ∃ x s, d.cells[(c - 1).toNat]? = some x ∧ d.lows[(c - 1).toNat]? = some s ∧ cellRight x s = true := by
  obtain ⟨x1, x2, x3, s1, s2, s3, hc, hl, c1, c2, c3⟩ := h.cells
  rw [hc, hl]
  have : c = 1 ∨ c = 2 ∨ c = 3 := by omega
  rcases this with rfl | rfl | rfl
  · exact ⟨x1, s1, rfl, rfl, c1⟩
  · exact ⟨x2, s2, rfl, rfl, c2⟩
  · exact ⟨x3, s3, rfl, rfl, c3⟩
theorem Dr.Fine.led {d : Dr} (h : d.Fine) : d.led := fun c h1 h3 => by
  obtain ⟨x, s, hx, _, hr⟩ := h.cell c h1 h3
  obtain ⟨m, r, hm⟩ := stores_cons (cell_fine hr).2.2.1
  exact ⟨x, m, r, hx, hm⟩
theorem places_good : ∀ (l pre : List Pl), placesFrom pre l = true → ∀ p ∈ l, p.good = true
  | [], _, _, _, h => by cases h
  | x :: r, pre, h, p, hp => by
    simp only [placesFrom, Bool.and_eq_true] at h
    rcases List.mem_cons.1 hp with rfl | hp
    · exact h.1.1
    · exact places_good r _ h.2 p hp
theorem good_fine {p : Pl} (h : p.good = true) : (1 ≤ p.shard ∧ p.shard ≤ 1099511627776) ∧ (1 ≤ p.epoch ∧ p.epoch ≤ 1099511627776) ∧ 1 ≤ p.cell ∧ p.cell ≤ 3 := by
  simp only [Pl.good, rng, Bool.and_eq_true, decide_eq_true_eq] at h
  exact ⟨h.1.1, h.1.2, h.2⟩
theorem Dr.Fine.place {d : Dr} (h : d.Fine) : ∀ p ∈ d.places, p.good = true := by
  have := h.places
  simp only [placesRight, Bool.and_eq_true] at this
  exact places_good _ _ this.1.2
structure Jb.Fine (j : Jb) : Prop where
  kind : 0 ≤ j.kind ∧ j.kind ≤ 5
  step : 0 ≤ j.step ∧ j.step ≤ 7
  cell : 0 ≤ j.cell ∧ j.cell ≤ 3
  to_ : 0 ≤ j.to ∧ j.to ≤ 3
  cellK : j.kind = 1 ∨ j.kind = 2 ∨ j.kind = 3 ∨ j.kind = 5 → 1 ≤ j.cell
  toK : j.kind = 1 → 1 ≤ j.to
  memK : j.kind = 5 → ∃ m r, j.members = m :: r
theorem job_fine {j : Jb} (h : j.right = true) : j.Fine := by
  simp only [Jb.right, Jb.nums, rng, Bool.and_eq_true, decide_eq_true_eq] at h
  obtain ⟨⟨⟨⟨⟨⟨k1, k2⟩, n⟩, w⟩, t⟩, ⟨c, o⟩, m⟩, r⟩ := h
  refine ⟨k1, k2, c, o, fun hk => ?_, fun hk => ?_, fun hk => ?_⟩
  · rcases hk with hk | hk | hk | hk <;> rw [hk] at r <;> simp at r <;> omega
  · rw [hk] at r
    simp at r; omega
  · rw [hk] at r
    simp at r
    cases hm : j.members with
    | nil => rw [hm] at r; simp at r
    | cons a b => exact ⟨a, b, rfl⟩
def Dr.view (d : Dr) (c : Int) : Int := ((d.cells[(c - 1).toNat]?).map Inf.view).getD 0
end Go.Proofs.YtefoleocbhkobaaGreatDoor
namespace Go.Proofs.YtefoleocbhkobaaGreatDoor
open Go Go.Ev
set_option linter.unusedSectionVars false
set_option linter.unusedSimpArgs false
set_option linter.unusedVariables false
def k51 : IC := .seq (.reg o51_5) (.ret)
theorem c51_at : c51 = ⟨2, [.t 4], [], [], .seq (.reg o51_1) (.seq (.seq (.reg o51_2) (.cond (.t 12) (.seq (.reg o51_3) (.ret)) (.skip))) (.seq (.seq (.reg o51_4) (.block 0 (.loop b51_1))) k51))⟩ := rfl
@[go_sem high] theorem dr_span (d : Dr) : rdc d.job.cells 13 2 true = some (.agg [.str d.job.lo, .str d.job.hi]) := rfl
set_option maxRecDepth 100000 in
set_option maxHeartbeats 1000000 in
theorem loop48 {n : Nat} (l : List Int) (hl : l.length ≤ 1000000000) : ∀ (rest pre : List Int) (m : Nat) (env : Env) (H : Heap), l = pre ++ rest → rest.length + 1 ≤ m →
    evGh (.keep [0, 1, 5] []) env H = some ([(0, .ro (l.map rowI)), (1, .ro (l.map rowI)), (5, .int .i64 pre.length)], []) →
    Ends (iter m (evCode ⟨run tab prim glob n, glob⟩ (iter n) b48_1) env H) (fun ex _ _ => ex = .exit 0)
  | [], pre, m + 1, env, H, hp, hm, hk => by
    have e0 : pre.length = l.length := by rw [hp]; simp
    rw [iter_step]
    generalize iter m (evCode ⟨run tab prim glob n, glob⟩ (iter n) b48_1) = g
    simp only [b48_1, ob48_1_1, ob48_1_2, ob48_1_3, ob48_1_4, hk, go_sem, Nat.reduceAdd, Nat.reduceMul, reduceIte, Nat.reduceLeDiff, Int.reduceLE, Int.reduceLT, Int.reduceToNat, e0, Int.lt_irrefl, afterIt, List.length_map]
    exact Ends.of rfl
  | x :: rest, pre, m + 1, env, H, hp, hm, hk => by
    have e0 : pre.length < l.length := by rw [hp]; simp
    have e1 : (pre.length : Int) < (l.length : Int) := by omega
    have e2 : (0 : Int) ≤ (pre.length : Int) := by omega
    have e3 := at_pre rowI hp
    have e4 : IntKind.i64.wrap ((pre.length : Int) + 1) = ((pre.length + 1 : Nat) : Int) := cast_add (by omega)
    have ih := loop48 (n := n) l hl rest (pre ++ [x]) m
    rw [iter_step]
    generalize iter m (evCode ⟨run tab prim glob n, glob⟩ (iter n) b48_1) = g at ih ⊢
    simp only [rowI, len1] at e3 ih
    simp only [b48_1, ob48_1_1, ob48_1_2, ob48_1_3, ob48_1_4, hk, go_sem, Nat.reduceAdd, Nat.reduceMul, reduceIte, Nat.reduceLeDiff, Int.reduceLE, Int.reduceLT, Int.reduceToNat, e1, e2, e3, e4, List.length_map, Nat.beq_refl, afterIt, beq_self_eq_true]
    exact ih _ _ (by rw [hp]; simp) (by simp at hm; omega) rfl
theorem ints_ok {N : Nat} (l : List Int) (hl : l.length ≤ 1000000000) (hN : l.length + 4 ≤ N) : run tab prim glob N 48 [.ro (l.map rowI), .ro (l.map rowI)] = some (.bool true, []) := by
  obtain ⟨n, rfl⟩ : ∃ n, N = n + 1 := ⟨N - 1, by omega⟩
  rw [enters (fn := c48) rfl]
  have hL := fun env H h => loop48 (n := n) l hl l [] n env H rfl (by omega) h
  simp only [c48, o48_1, o48_2, o48_3, o48_4, o48_5, go_sem, Nat.reduceAdd, Nat.reduceMul, reduceIte, Nat.reduceLeDiff, Int.reduceLE, Int.reduceLT, Int.reduceToNat, List.length_map]
  generalize iter n (evCode ⟨run tab prim glob n, glob⟩ (iter n) b48_1) = gg at hL ⊢
  generalize hE : gg _ _ = o
  obtain ⟨ex, env', H', rfl, rfl⟩ := Ends.at hL hE (by rfl)
  simp only [go_sem, Nat.reduceAdd, Nat.reduceMul, reduceIte, Nat.reduceLeDiff, Int.reduceLE, Int.reduceLT, Int.reduceToNat]
set_option maxRecDepth 100000 in
set_option maxHeartbeats 1000000 in
theorem loop49 {n : Nat} (l : List Pl) (hl : l.length ≤ 1000000000) : ∀ (rest pre : List Pl) (m : Nat) (env : Env) (H : Heap), l = pre ++ rest → rest.length + 1 ≤ m →
    evGh (.keep [0, 1, 5] []) env H = some ([(0, .ro (l.map Pl.cells)), (1, .ro (l.map Pl.cells)), (5, .int .i64 pre.length)], []) →
    Ends (iter m (evCode ⟨run tab prim glob n, glob⟩ (iter n) b49_1) env H) (fun ex _ _ => ex = .exit 0)
  | [], pre, m + 1, env, H, hp, hm, hk => by
    have e0 : pre.length = l.length := by rw [hp]; simp
    rw [iter_step]
    generalize iter m (evCode ⟨run tab prim glob n, glob⟩ (iter n) b49_1) = g
    simp only [b49_1, ob49_1_1, ob49_1_2, ob49_1_3, ob49_1_4, hk, go_sem, Nat.reduceAdd, Nat.reduceMul, reduceIte, Nat.reduceLeDiff, Int.reduceLE, Int.reduceLT, Int.reduceToNat, e0, Int.lt_irrefl, afterIt, List.length_map]
    exact Ends.of rfl
  | x :: rest, pre, m + 1, env, H, hp, hm, hk => by
    have e0 : pre.length < l.length := by rw [hp]; simp
    have e1 : (pre.length : Int) < (l.length : Int) := by omega
    have e2 : (0 : Int) ≤ (pre.length : Int) := by omega
    have e3 := at_pre Pl.cells hp
    have e4 : IntKind.i64.wrap ((pre.length : Int) + 1) = ((pre.length + 1 : Nat) : Int) := cast_add (by omega)
    have ih := loop49 (n := n) l hl rest (pre ++ [x]) m
    rw [iter_step]
    generalize iter m (evCode ⟨run tab prim glob n, glob⟩ (iter n) b49_1) = g at ih ⊢
    simp only [Pl.cells, len1] at e3 ih
    simp only [b49_1, ob49_1_1, ob49_1_2, ob49_1_3, ob49_1_4, hk, go_sem, Nat.reduceAdd, Nat.reduceMul, reduceIte, Nat.reduceLeDiff, Int.reduceLE, Int.reduceLT, Int.reduceToNat, e1, e2, e3, e4, List.length_map, Nat.beq_refl, afterIt, beq_self_eq_true]
    exact ih _ _ (by rw [hp]; simp) (by simp at hm; omega) rfl
theorem plEq_ok {N : Nat} (l : List Pl) (hl : l.length ≤ 1000000000) (hN : l.length + 4 ≤ N) : run tab prim glob N 49 [.ro (l.map Pl.cells), .ro (l.map Pl.cells)] = some (.bool true, []) := by
  obtain ⟨n, rfl⟩ : ∃ n, N = n + 1 := ⟨N - 1, by omega⟩
  rw [enters (fn := c49) rfl]
  have hL := fun env H h => loop49 (n := n) l hl l [] n env H rfl (by omega) h
  simp only [c49, o49_1, o49_2, o49_3, o49_4, o49_5, go_sem, Nat.reduceAdd, Nat.reduceMul, reduceIte, Nat.reduceLeDiff, Int.reduceLE, Int.reduceLT, Int.reduceToNat, List.length_map]
  generalize iter n (evCode ⟨run tab prim glob n, glob⟩ (iter n) b49_1) = gg at hL ⊢
  generalize hE : gg _ _ = o
  obtain ⟨ex, env', H', rfl, rfl⟩ := Ends.at hL hE (by rfl)
  simp only [go_sem, Nat.reduceAdd, Nat.reduceMul, reduceIte, Nat.reduceLeDiff, Int.reduceLE, Int.reduceLT, Int.reduceToNat]
set_option maxRecDepth 100000 in
set_option maxHeartbeats 1000000 in
theorem loop50 {n : Nat} (l : List Le) (hl : l.length ≤ 1000000000) : ∀ (rest pre : List Le) (m : Nat) (env : Env) (H : Heap), l = pre ++ rest → rest.length + 1 ≤ m →
    evGh (.keep [0, 1, 5] []) env H = some ([(0, .ro (l.map Le.cells)), (1, .ro (l.map Le.cells)), (5, .int .i64 pre.length)], []) →
    Ends (iter m (evCode ⟨run tab prim glob n, glob⟩ (iter n) b50_1) env H) (fun ex _ _ => ex = .exit 0)
  | [], pre, m + 1, env, H, hp, hm, hk => by
    have e0 : pre.length = l.length := by rw [hp]; simp
    rw [iter_step]
    generalize iter m (evCode ⟨run tab prim glob n, glob⟩ (iter n) b50_1) = g
    simp only [b50_1, ob50_1_1, ob50_1_2, ob50_1_3, ob50_1_4, hk, go_sem, Nat.reduceAdd, Nat.reduceMul, reduceIte, Nat.reduceLeDiff, Int.reduceLE, Int.reduceLT, Int.reduceToNat, e0, Int.lt_irrefl, afterIt, List.length_map]
    exact Ends.of rfl
  | x :: rest, pre, m + 1, env, H, hp, hm, hk => by
    have e0 : pre.length < l.length := by rw [hp]; simp
    have e1 : (pre.length : Int) < (l.length : Int) := by omega
    have e2 : (0 : Int) ≤ (pre.length : Int) := by omega
    have e3 := at_pre Le.cells hp
    have e4 : IntKind.i64.wrap ((pre.length : Int) + 1) = ((pre.length + 1 : Nat) : Int) := cast_add (by omega)
    have ih := loop50 (n := n) l hl rest (pre ++ [x]) m
    rw [iter_step]
    generalize iter m (evCode ⟨run tab prim glob n, glob⟩ (iter n) b50_1) = g at ih ⊢
    simp only [Le.cells, len1] at e3 ih
    simp only [b50_1, ob50_1_1, ob50_1_2, ob50_1_3, ob50_1_4, hk, go_sem, Nat.reduceAdd, Nat.reduceMul, reduceIte, Nat.reduceLeDiff, Int.reduceLE, Int.reduceLT, Int.reduceToNat, e1, e2, e3, e4, List.length_map, Nat.beq_refl, afterIt, beq_self_eq_true]
    exact ih _ _ (by rw [hp]; simp) (by simp at hm; omega) rfl
theorem leEq_ok {N : Nat} (l : List Le) (hl : l.length ≤ 1000000000) (hN : l.length + 4 ≤ N) : run tab prim glob N 50 [.ro (l.map Le.cells), .ro (l.map Le.cells)] = some (.bool true, []) := by
  obtain ⟨n, rfl⟩ : ∃ n, N = n + 1 := ⟨N - 1, by omega⟩
  rw [enters (fn := c50) rfl]
  have hL := fun env H h => loop50 (n := n) l hl l [] n env H rfl (by omega) h
  simp only [c50, o50_1, o50_2, o50_3, o50_4, o50_5, go_sem, Nat.reduceAdd, Nat.reduceMul, reduceIte, Nat.reduceLeDiff, Int.reduceLE, Int.reduceLT, Int.reduceToNat, List.length_map]
  generalize iter n (evCode ⟨run tab prim glob n, glob⟩ (iter n) b50_1) = gg at hL ⊢
  generalize hE : gg _ _ = o
  obtain ⟨ex, env', H', rfl, rfl⟩ := Ends.at hL hE (by rfl)
  simp only [go_sem, Nat.reduceAdd, Nat.reduceMul, reduceIte, Nat.reduceLeDiff, Int.reduceLE, Int.reduceLT, Int.reduceToNat]
set_option maxRecDepth 100000 in
set_option maxHeartbeats 1000000 in
theorem loop51 {n : Nat} (d : Dr) (hl : d.job.parts.length ≤ 1000000000) : ∀ (rest pre : List (List UInt8)) (m : Nat) (env : Env) (H : Heap), d.job.parts = pre ++ rest → rest.length + 1 ≤ m →
    evGh (.keep [2, 3, 5] [100002, 100003]) env H = some ([(2, .ptr 100002 0), (3, .ptr 100003 0), (5, .int .i64 pre.length)], [(100002, .box d.job.cells), (100003, .box d.job.cells)]) →
    Ends (iter m (evCode ⟨run tab prim glob n, glob⟩ (iter n) b51_1) env H) (fun ex e h => ex = .exit 0 ∧ getT e 2 = .ptr 100002 0 ∧ getT e 3 = .ptr 100003 0 ∧ h = [(100002, .box d.job.cells), (100003, .box d.job.cells)])
  | [], pre, m + 1, env, H, hp, hm, hk => by
    have e0 : pre.length = d.job.parts.length := by rw [hp]; simp
    rw [iter_step]
    generalize iter m (evCode ⟨run tab prim glob n, glob⟩ (iter n) b51_1) = g
    simp only [b51_1, ob51_1_1, ob51_1_2, ob51_1_3, ob51_1_4, hk, go_sem, Nat.reduceAdd, Nat.reduceMul, reduceIte, Nat.reduceLeDiff, Int.reduceLE, Int.reduceLT, Int.reduceToNat, e0, Int.lt_irrefl, afterIt, List.length_map]
    exact Ends.of ⟨rfl, rfl, rfl, rfl⟩
  | x :: rest, pre, m + 1, env, H, hp, hm, hk => by
    have e0 : pre.length < d.job.parts.length := by rw [hp]; simp
    have e1 : (pre.length : Int) < (d.job.parts.length : Int) := by omega
    have e2 : (0 : Int) ≤ (pre.length : Int) := by omega
    have e3 := at_pre (fun s => [PV.str s]) hp
    have e4 : IntKind.i64.wrap ((pre.length : Int) + 1) = ((pre.length + 1 : Nat) : Int) := cast_add (by omega)
    have ih := loop51 (n := n) d hl rest (pre ++ [x]) m
    rw [iter_step]
    generalize iter m (evCode ⟨run tab prim glob n, glob⟩ (iter n) b51_1) = g at ih ⊢
    simp only [len1] at e3 ih
    simp only [b51_1, ob51_1_1, ob51_1_2, ob51_1_3, ob51_1_4, hk, go_sem, Nat.reduceAdd, Nat.reduceMul, reduceIte, Nat.reduceLeDiff, Int.reduceLE, Int.reduceLT, Int.reduceToNat, e1, e2, e3, e4, List.length_map, Nat.beq_refl, afterIt, beq_self_eq_true]
    exact ih _ _ (by rw [hp]; simp) (by simp at hm; omega) rfl
set_option maxRecDepth 100000 in
set_option maxHeartbeats 4000000 in
theorem jobEq_ok {N : Nat} (d : Dr) (h1 : d.job.parts.length ≤ 1000000000) (h2 : d.job.wait.length ≤ 1000000000) (h3 : d.job.members.length ≤ 1000000000) (hN : d.job.parts.length + d.job.wait.length + d.job.members.length + 10 ≤ N) : run tab prim glob N 51 [.agg d.job.cells, .agg d.job.cells] = some (.bool true, []) := by
  obtain ⟨n, rfl⟩ : ∃ n, N = n + 1 := ⟨N - 1, by omega⟩
  rw [enters (fn := c51) rfl]
  have r1 := ints_ok (N := n) d.job.wait h2 (by omega)
  have r2 := ints_ok (N := n) d.job.members h3 (by omega)
  have hL := fun env H h => loop51 (n := n) d h1 d.job.parts [] n env H rfl (by omega) h
  generalize hg : iter n (evCode ⟨run tab prim glob n, glob⟩ (iter n) b51_1) = gg at hL
  rw [c51_at]
  simp only [o51_1, o51_2, o51_4, go_sem, Nat.reduceAdd, Nat.reduceMul, reduceIte, Nat.reduceLeDiff, Int.reduceLE, Int.reduceLT, Int.reduceToNat, mentL, ment, ment1, evGh, keepE, keepH, hg]
  generalize hE : gg _ _ = o
  obtain ⟨ex, env', H', rfl, rfl, q1, q2, rfl⟩ := Ends.at hL hE (by simp only [go_sem, Nat.reduceAdd, Nat.reduceMul, reduceIte, Nat.reduceLeDiff, Int.reduceLE, Int.reduceLT, Int.reduceToNat, mentL, ment, ment1, evGh, keepE, keepH])
  simp only [k51, o51_5, go_sem, Nat.reduceAdd, Nat.reduceMul, reduceIte, Nat.reduceLeDiff, Int.reduceLE, Int.reduceLT, Int.reduceToNat, q1, q2, r1, r2, St.cells, beq_self_eq_true]
set_option maxRecDepth 100000 in
set_option maxHeartbeats 1000000 in
theorem loop15a {n : Nat} (d : Dr) {B : Nat} (hm0 : ∀ x ∈ d.cells, x.members.length ≤ B) (hB : B ≤ 1000000000) (hN : B + 4 ≤ n) (hl : d.cells.length ≤ 1000000000) : ∀ (rest pre : List Inf) (m : Nat) (env : Env) (H : Heap), d.cells = pre ++ rest → rest.length + 1 ≤ m →
    evGh (.keep [2, 3, 5] [100002, 100003]) env H = some ([(2, .ptr 100002 0), (3, .ptr 100003 0), (5, .int .i64 pre.length)], [(100002, .box d.cellsL), (100003, .box d.cellsL)]) →
    Ends (iter m (evCode ⟨run tab prim glob n, glob⟩ (iter n) b15_1) env H) (fun ex e h => ex = .exit 0 ∧ getT e 2 = .ptr 100002 0 ∧ getT e 3 = .ptr 100003 0 ∧ h = [(100002, .box d.cellsL), (100003, .box d.cellsL)])
  | [], pre, m + 1, env, H, hp, hm, hk => by
    have e0 : pre.length = d.cells.length := by rw [hp]; simp
    rw [iter_step]
    generalize iter m (evCode ⟨run tab prim glob n, glob⟩ (iter n) b15_1) = g
    simp only [b15_1, ob15_1_1, ob15_1_2, ob15_1_3, ob15_1_4, hk, go_sem, Nat.reduceAdd, Nat.reduceMul, reduceIte, Nat.reduceLeDiff, Int.reduceLE, Int.reduceLT, Int.reduceToNat, e0, Int.lt_irrefl, afterIt, List.length_map]
    exact Ends.of ⟨rfl, rfl, rfl, rfl⟩
  | x :: rest, pre, m + 1, env, H, hp, hm, hk => by
    have e0 : pre.length < d.cells.length := by rw [hp]; simp
    have e1 : (pre.length : Int) < (d.cells.length : Int) := by omega
    have e2 : (0 : Int) ≤ (pre.length : Int) := by omega
    have e3 := at_pre infRow hp
    have e4 : IntKind.i64.wrap ((pre.length : Int) + 1) = ((pre.length + 1 : Nat) : Int) := cast_add (by omega)
    have r1 := ints_ok (N := n) x.members (by have := hm0 x (by rw [hp]; simp); omega) (by have := hm0 x (by rw [hp]; simp); omega)
    have ih := loop15a (n := n) d hm0 hB hN hl rest (pre ++ [x]) m
    rw [iter_step]
    generalize iter m (evCode ⟨run tab prim glob n, glob⟩ (iter n) b15_1) = g at ih ⊢
    simp only [infRow, len1] at e3 ih r1
    simp only [b15_1, ob15_1_1, ob15_1_2, ob15_1_3, ob15_1_4, hk, go_sem, Nat.reduceAdd, Nat.reduceMul, reduceIte, Nat.reduceLeDiff, Int.reduceLE, Int.reduceLT, Int.reduceToNat, e1, e2, e3, e4, r1, List.length_map, Nat.beq_refl, afterIt, beq_self_eq_true]
    exact ih _ _ (by rw [hp]; simp) (by simp at hm; omega) rfl
set_option maxRecDepth 100000 in
set_option maxHeartbeats 1000000 in
theorem loop15b {n : Nat} (d : Dr) (hl : d.lows.length ≤ 1000000000) : ∀ (rest pre : List St) (m : Nat) (env : Env) (H : Heap), d.lows = pre ++ rest → rest.length + 1 ≤ m →
    evGh (.keep [2, 3, 6] [100002, 100003]) env H = some ([(2, .ptr 100002 0), (3, .ptr 100003 0), (6, .int .i64 pre.length)], [(100002, .box d.cellsL), (100003, .box d.cellsL)]) →
    Ends (iter m (evCode ⟨run tab prim glob n, glob⟩ (iter n) b15_2) env H) (fun ex e h => ex = .exit 2 ∧ getT e 2 = .ptr 100002 0 ∧ getT e 3 = .ptr 100003 0 ∧ h = [(100002, .box d.cellsL), (100003, .box d.cellsL)])
  | [], pre, m + 1, env, H, hp, hm, hk => by
    have e0 : pre.length = d.lows.length := by rw [hp]; simp
    rw [iter_step]
    generalize iter m (evCode ⟨run tab prim glob n, glob⟩ (iter n) b15_2) = g
    simp only [b15_2, ob15_2_1, ob15_2_2, ob15_2_3, ob15_2_4, hk, go_sem, Nat.reduceAdd, Nat.reduceMul, reduceIte, Nat.reduceLeDiff, Int.reduceLE, Int.reduceLT, Int.reduceToNat, e0, Int.lt_irrefl, afterIt, List.length_map]
    exact Ends.of ⟨rfl, rfl, rfl, rfl⟩
  | x :: rest, pre, m + 1, env, H, hp, hm, hk => by
    have e0 : pre.length < d.lows.length := by rw [hp]; simp
    have e1 : (pre.length : Int) < (d.lows.length : Int) := by omega
    have e2 : (0 : Int) ≤ (pre.length : Int) := by omega
    have e3 := at_pre St.cells hp
    have e4 : IntKind.i64.wrap ((pre.length : Int) + 1) = ((pre.length + 1 : Nat) : Int) := cast_add (by omega)
    have ih := loop15b (n := n) d hl rest (pre ++ [x]) m
    rw [iter_step]
    generalize iter m (evCode ⟨run tab prim glob n, glob⟩ (iter n) b15_2) = g at ih ⊢
    simp only [St.cells, len1] at e3 ih
    simp only [b15_2, ob15_2_1, ob15_2_2, ob15_2_3, ob15_2_4, hk, go_sem, Nat.reduceAdd, Nat.reduceMul, reduceIte, Nat.reduceLeDiff, Int.reduceLE, Int.reduceLT, Int.reduceToNat, e1, e2, e3, e4, List.length_map, Nat.beq_refl, afterIt, beq_self_eq_true]
    exact ih _ _ (by rw [hp]; simp) (by simp at hm; omega) rfl
set_option maxRecDepth 100000 in
set_option maxHeartbeats 1000000 in
theorem loop15c {n : Nat} (d : Dr) (hl : d.opened.length ≤ 1000000000) : ∀ (rest pre : List Rw) (m : Nat) (env : Env) (H : Heap), d.opened = pre ++ rest → rest.length + 1 ≤ m →
    evGh (.keep [2, 3, 7] [100002, 100003]) env H = some ([(2, .ptr 100002 0), (3, .ptr 100003 0), (7, .int .i64 pre.length)], [(100002, .box d.cellsL), (100003, .box d.cellsL)]) →
    Ends (iter m (evCode ⟨run tab prim glob n, glob⟩ (iter n) b15_3) env H) (fun ex e h => ex = .exit 4 ∧ getT e 2 = .ptr 100002 0 ∧ getT e 3 = .ptr 100003 0 ∧ h = [(100002, .box d.cellsL), (100003, .box d.cellsL)])
  | [], pre, m + 1, env, H, hp, hm, hk => by
    have e0 : pre.length = d.opened.length := by rw [hp]; simp
    rw [iter_step]
    generalize iter m (evCode ⟨run tab prim glob n, glob⟩ (iter n) b15_3) = g
    simp only [b15_3, ob15_3_1, ob15_3_2, ob15_3_3, ob15_3_4, hk, go_sem, Nat.reduceAdd, Nat.reduceMul, reduceIte, Nat.reduceLeDiff, Int.reduceLE, Int.reduceLT, Int.reduceToNat, e0, Int.lt_irrefl, afterIt, List.length_map]
    exact Ends.of ⟨rfl, rfl, rfl, rfl⟩
  | x :: rest, pre, m + 1, env, H, hp, hm, hk => by
    have e0 : pre.length < d.opened.length := by rw [hp]; simp
    have e1 : (pre.length : Int) < (d.opened.length : Int) := by omega
    have e2 : (0 : Int) ≤ (pre.length : Int) := by omega
    have e3 := at_pre Rw.cells hp
    have e4 : IntKind.i64.wrap ((pre.length : Int) + 1) = ((pre.length + 1 : Nat) : Int) := cast_add (by omega)
    have ih := loop15c (n := n) d hl rest (pre ++ [x]) m
    rw [iter_step]
    generalize iter m (evCode ⟨run tab prim glob n, glob⟩ (iter n) b15_3) = g at ih ⊢
    simp only [Rw.cells, len1] at e3 ih
    simp only [b15_3, ob15_3_1, ob15_3_2, ob15_3_3, ob15_3_4, hk, go_sem, Nat.reduceAdd, Nat.reduceMul, reduceIte, Nat.reduceLeDiff, Int.reduceLE, Int.reduceLT, Int.reduceToNat, e1, e2, e3, e4, List.length_map, Nat.beq_refl, afterIt, beq_self_eq_true]
    exact ih _ _ (by rw [hp]; simp) (by simp at hm; omega) rfl
set_option maxRecDepth 100000 in
set_option maxHeartbeats 4000000 in
theorem equal_ok {N B : Nat} (d : Dr) (hB : B ≤ 2000000) (hd : d.small B) (hc : d.cells.length ≤ B) (hl : d.lows.length ≤ B) (hpa : d.job.parts.length ≤ B) (hN : 10 * B + 100 ≤ N) : run tab prim glob N 15 [.agg d.cellsL, .agg d.cellsL] = some (.bool true, []) := by
  obtain ⟨n, rfl⟩ : ∃ n, N = n + 1 := ⟨N - 1, by omega⟩
  rw [enters (fn := c15) rfl]
  have := hd.wait
  have := hd.jobm
  have := hd.places
  have := hd.leases
  have := hd.opened
  have r1 := plEq_ok (N := n) d.places (by omega) (by omega)
  have r2 := leEq_ok (N := n) d.leases (by omega) (by omega)
  have r3 := jobEq_ok (N := n) d (by omega) (by omega) (by omega) (by omega)
  have hL1 := fun env H h => loop15a (n := n) d hd.cells (by omega) (by omega) (by omega) d.cells [] n env H rfl (by omega) h
  have hL2 := fun env H h => loop15b (n := n) d (by omega) d.lows [] n env H rfl (by omega) h
  have hL3 := fun env H h => loop15c (n := n) d (by omega) d.opened [] n env H rfl (by omega) h
  generalize hg1 : iter n (evCode ⟨run tab prim glob n, glob⟩ (iter n) b15_1) = g1 at hL1
  generalize hg2 : iter n (evCode ⟨run tab prim glob n, glob⟩ (iter n) b15_2) = g2 at hL2
  generalize hg3 : iter n (evCode ⟨run tab prim glob n, glob⟩ (iter n) b15_3) = g3 at hL3
  simp only [c15, o15_1, o15_2, o15_3, o15_4, go_sem, Nat.reduceAdd, Nat.reduceMul, reduceIte, Nat.reduceLeDiff, Int.reduceLE, Int.reduceLT, Int.reduceToNat, mentL, ment, ment1, evGh, keepE, keepH, hg1]
  generalize hE : g1 _ _ = o
  obtain ⟨ex, env', H', rfl, rfl, q1, q2, rfl⟩ := Ends.at hL1 hE (by simp only [go_sem, Nat.reduceAdd, Nat.reduceMul, reduceIte, Nat.reduceLeDiff, Int.reduceLE, Int.reduceLT, Int.reduceToNat, mentL, ment, ment1, evGh, keepE, keepH])
  simp only [k15_3, ok15_3_1, go_sem, Nat.reduceAdd, Nat.reduceMul, reduceIte, Nat.reduceLeDiff, Int.reduceLE, Int.reduceLT, Int.reduceToNat, mentL, ment, ment1, evGh, keepE, keepH, q1, q2, hg2]
  generalize hE2 : g2 _ _ = o2
  obtain ⟨ex2, env2, H2, rfl, rfl, p1, p2, rfl⟩ := Ends.at hL2 hE2 (by simp only [go_sem, Nat.reduceAdd, Nat.reduceMul, reduceIte, Nat.reduceLeDiff, Int.reduceLE, Int.reduceLT, Int.reduceToNat, mentL, ment, ment1, evGh, keepE, keepH, q1, q2])
  simp only [k15_2, ok15_2_1, go_sem, Nat.reduceAdd, Nat.reduceMul, reduceIte, Nat.reduceLeDiff, Int.reduceLE, Int.reduceLT, Int.reduceToNat, mentL, ment, ment1, evGh, keepE, keepH, p1, p2, hg3]
  generalize hE3 : g3 _ _ = o3
  obtain ⟨ex3, env3, H3, rfl, rfl, u1, u2, rfl⟩ := Ends.at hL3 hE3 (by simp only [go_sem, Nat.reduceAdd, Nat.reduceMul, reduceIte, Nat.reduceLeDiff, Int.reduceLE, Int.reduceLT, Int.reduceToNat, mentL, ment, ment1, evGh, keepE, keepH, p1, p2])
  simp only [k15_1, ok15_1_1, go_sem, Nat.reduceAdd, Nat.reduceMul, reduceIte, Nat.reduceLeDiff, Int.reduceLE, Int.reduceLT, Int.reduceToNat, u1, u2, r1, r2, r3, St.cells, beq_self_eq_true]
end Go.Proofs.YtefoleocbhkobaaGreatDoor
namespace Go.Proofs.YtefoleocbhkobaaGreatDoor
open Go Go.Ev
set_option linter.unusedSectionVars false
set_option linter.unusedSimpArgs false
set_option linter.unusedVariables false
theorem cmpL_self : ∀ a : List Nat, cmpL a a = 0
  | [] => rfl
  | x :: xs => by simp [cmpL, cmpL_self xs]
theorem cmpL_eq : ∀ a b : List Nat, cmpL a b = 0 → a = b
  | [], [], _ => rfl
  | [], _ :: _, h => by simp [cmpL] at h
  | _ :: _, [], h => by simp [cmpL] at h
  | x :: xs, y :: ys, h => by
    simp only [cmpL] at h
    split at h
    · cases h
    · split at h
      · cases h
      · rw [cmpL_eq xs ys h, show x = y by omega]
theorem cmpL_trans : ∀ a b c : List Nat, cmpL a b < 0 → cmpL b c < 0 → cmpL a c < 0
  | [], [], _, h, _ => by simp [cmpL] at h
  | [], _ :: _, [], _, h => by simp [cmpL] at h
  | [], _ :: _, _ :: _, _, _ => by simp [cmpL]
  | _ :: _, [], _, h, _ => by simp [cmpL] at h
  | _ :: _, _ :: _, [], _, h => by simp [cmpL] at h
  | x :: xs, y :: ys, z :: zs, h1, h2 => by
    have ih := cmpL_trans xs ys zs
    simp only [cmpL] at h1 h2 ⊢
    repeat' split at h1
    all_goals repeat' split at h2
    all_goals repeat' split
    all_goals first | omega | (exact ih h1 h2) | (exfalso; omega)
theorem keyCmp_self (a : List UInt8) : keyCmp a a = 0 := cmpL_self _
theorem keyCmp_trans {a b c : List UInt8} (h1 : keyCmp a b < 0) (h2 : keyCmp b c < 0) : keyCmp a c < 0 := cmpL_trans _ _ _ h1 h2
def enc (c : Nat) : List Nat := if c < 128 then [c] else if c < 2048 then [192 + c / 64, 128 + c % 64] else if c < 65536 then [224 + c / 4096, 128 + c / 64 % 64, 128 + c % 64] else [240 + c / 262144, 128 + c / 4096 % 64, 128 + c / 64 % 64, 128 + c % 64]
theorem letter_enc : ∀ {l : List Nat} {c k : Nat}, letter l = some (c, k) → l.take k = enc c ∧ k = (enc c).length
  | [], c, k, h => by cases h
  | a :: r, c, k, h => by
    simp only [letter] at h
    by_cases c0 : a < 128
    · rw [if_pos c0] at h; cases h
      simp [enc, c0]
    rw [if_neg c0] at h
    by_cases c1 : a < 194
    · rw [if_pos c1] at h; cases h
    rw [if_neg c1] at h
    by_cases c2 : a < 224
    · rw [if_pos c2] at h
      match r, h with
      | b :: t, h =>
        by_cases hb : contB b = true
        · simp only [hb, if_true] at h
          obtain ⟨hc, hk⟩ := Prod.mk.inj (Option.some.inj h)
          subst hk
          have := contB_iff.1 hb
          rw [enc, if_neg (by omega), if_pos (by omega)]
          simp only [List.take_succ_cons, List.take_zero, List.length_cons, List.length_nil, List.cons.injEq, and_true]
          omega
        · simp only [hb] at h; cases h
    rw [if_neg c2] at h
    by_cases c3 : a < 240
    · rw [if_pos c3] at h
      match r, h with
      | b :: d :: t, h =>
        by_cases hb : (contB b && contB d) = true
        · simp only [hb, if_true] at h
          split at h
          · cases h
          split at h
          · cases h
          obtain ⟨hc, hk⟩ := Prod.mk.inj (Option.some.inj h)
          subst hk
          simp only [Bool.and_eq_true, contB_iff] at hb
          rw [enc, if_neg (by omega), if_neg (by omega), if_pos (by omega)]
          simp only [List.take_succ_cons, List.take_zero, List.length_cons, List.length_nil, List.cons.injEq, and_true]
          omega
        · simp only [hb] at h; cases h
    rw [if_neg c3] at h
    by_cases c4 : a < 245
    · rw [if_pos c4] at h
      match r, h with
      | b :: d :: e :: t, h =>
        by_cases hb : (contB b && contB d && contB e) = true
        · simp only [hb, if_true] at h
          split at h
          · cases h
          split at h
          · cases h
          obtain ⟨hc, hk⟩ := Prod.mk.inj (Option.some.inj h)
          subst hk
          simp only [Bool.and_eq_true, contB_iff] at hb
          rw [enc, if_neg (by omega), if_neg (by omega), if_neg (by omega)]
          simp only [List.take_succ_cons, List.take_zero, List.length_cons, List.length_nil, List.cons.injEq, and_true]
          omega
        · simp only [hb] at h; cases h
    rw [if_neg c4] at h
    cases h
theorem nats_inj {s t : List UInt8} (h : nats s = nats t) : s = t :=
  (List.map_inj_right fun _ _ h => UInt8.toNat_inj.1 h).1 h
theorem lets_inj : ∀ (f : Nat) (s t : List UInt8), s.length < f → t.length < f → plainAll f s = true → plainAll f t = true → lets f s = lets f t → s = t
  | 0, s, _, h, _, _, _, _ => by omega
  | f + 1, [], [], _, _, _, _, _ => rfl
  | f + 1, [], b :: t, _, _, _, _, h => by simp [lets] at h
  | f + 1, a :: s, [], _, _, _, _, h => by simp [lets] at h
  | f + 1, a :: s, b :: t, h1, h2, p1, p2, h => by
    simp only [lets, List.cons.injEq] at h
    simp only [plainAll, Bool.and_eq_true] at p1 p2
    have z1 := rune_size a s
    have z2 := rune_size b t
    have q1 : ∃ c k, letter (nats (a :: s)) = some (c, k) := by
      cases hl : letter (nats (a :: s)) with
      | none => rw [hl] at p1; simp [plainL] at p1
      | some p => exact ⟨p.1, p.2, rfl⟩
    have q2 : ∃ c k, letter (nats (b :: t)) = some (c, k) := by
      cases hl : letter (nats (b :: t)) with
      | none => rw [hl] at p2; simp [plainL] at p2
      | some p => exact ⟨p.1, p.2, rfl⟩
    obtain ⟨c1, k1, e1⟩ := q1
    obtain ⟨c2, k2, e2⟩ := q2
    have r1 : rune (a :: s) = (c1, k1) := by unfold rune; rw [e1]
    have r2 : rune (b :: t) = (c2, k2) := by unfold rune; rw [e2]
    rw [r1] at h p1 z1
    rw [r2] at h p2 z2
    simp only at h p1 p2 z1 z2
    obtain ⟨hc, ht⟩ := h
    subst hc
    obtain ⟨g1, g2⟩ := letter_enc e1
    obtain ⟨g3, g4⟩ := letter_enc e2
    have hk : k1 = k2 := by omega
    subst hk
    have hd := lets_inj f ((a :: s).drop k1) ((b :: t).drop k1) (by simp at h1 ⊢; omega) (by simp at h2 ⊢; omega) p1.2 p2.2 ht
    have hh : (a :: s).take k1 = (b :: t).take k1 := nats_inj (by rw [nats, nats, List.map_take, List.map_take]; exact g1.trans g3.symm)
    rw [← List.take_append_drop k1 (a :: s), ← List.take_append_drop k1 (b :: t), hd, hh]
theorem keyCmp_eq {s t : List UInt8} (hs : s = [] ∨ keyRight s = true) (ht : keyRight t = true) (h : keyCmp s t = 0) : s = t := by
  have h0 := cmpL_eq _ _ h
  obtain ⟨f, hf⟩ : ∃ f, f = s.length + t.length + 1 := ⟨_, rfl⟩
  have ps : plainAll f s = true := by
    rcases hs with rfl | hs
    · rw [hf]; rfl
    · simp only [keyRight, Bool.and_eq_true] at hs
      rw [← hs.1.1]; exact plainAll_same _ _ _ (by omega) (by omega)
  have pt : plainAll f t = true := by
    simp only [keyRight, Bool.and_eq_true] at ht
    rw [← ht.1.1]; exact plainAll_same _ _ _ (by omega) (by omega)
  refine lets_inj f s t (by omega) (by omega) ps pt ?_
  rw [lets_same f (s.length + 1) s (by omega) (by omega), lets_same f (t.length + 1) t (by omega) (by omega), h0]
theorem keyRight_ne {t : List UInt8} (h : keyRight t = true) : t ≠ [] := by
  rintro rfl
  simp [keyRight] at h
theorem hi_of {lo hi : List UInt8} (h : spanRight lo hi = true) : hi = [] ∨ (keyRight hi = true ∧ keyCmp lo hi < 0) := by
  simp only [spanRight, Bool.and_eq_true, Bool.or_eq_true, decide_eq_true_eq] at h
  exact h.2
theorem lo_of {lo hi : List UInt8} (h : spanRight lo hi = true) : lo = [] ∨ keyRight lo = true := by
  simp only [spanRight, Bool.and_eq_true, Bool.or_eq_true, decide_eq_true_eq] at h
  exact h.1
theorem chain_lo : ∀ (r : List Sp) (last : List UInt8), wholeFrom true last r = true → ∀ (k : Nat) (s : Sp), r[k]? = some s → last ≠ [] ∧ (last = s.lo ∧ k = 0 ∨ keyCmp last s.lo < 0)
  | [], _, _, k, s, h => by simp at h
  | x :: r, last, h, k, s, hk => by
    simp only [wholeFrom, Bool.and_eq_true, decide_eq_true_eq, Bool.not_eq_true', decide_eq_false_iff_not, Bool.true_and] at h
    obtain ⟨⟨⟨h1, h2⟩, h3⟩, h4⟩ := h
    refine ⟨h3, ?_⟩
    cases k with
    | zero =>
      simp only [List.getElem?_cons_zero, Option.some.injEq] at hk
      subst hk
      exact .inl ⟨h2.symm, rfl⟩
    | succ k =>
      simp only [List.getElem?_cons_succ] at hk
      obtain ⟨g1, g2⟩ := chain_lo r x.hi h4 k s hk
      right
      have g3 : keyCmp last x.hi < 0 := by
        rcases hi_of h1 with h | h
        · exact absurd h g1
        · rw [← h2]; exact h.2
      rcases g2 with ⟨g2, _⟩ | g2
      · rw [← g2]; exact g3
      · exact keyCmp_trans g3 g2
theorem chain_next : ∀ (r : List Sp) (b : Bool) (last : List UInt8), wholeFrom b last r = true → ∀ (i j : Nat) (p q : Sp), r[i]? = some p → r[j]? = some q → ((p.hi ≠ [] ∧ p.hi = q.lo) ↔ j = i + 1)
  | [], _, _, _, i, _, _, _, h, _ => by simp at h
  | x :: r, b, last, h, i, j, p, q, hi, hj => by
    simp only [wholeFrom, Bool.and_eq_true, decide_eq_true_eq] at h
    obtain ⟨⟨⟨h1, h2⟩, h3⟩, h4⟩ := h
    cases i with
    | zero =>
      simp only [List.getElem?_cons_zero, Option.some.injEq] at hi
      subst hi
      cases j with
      | zero =>
        simp only [List.getElem?_cons_zero, Option.some.injEq] at hj
        subst hj
        refine ⟨fun ⟨a, c⟩ => ?_, fun h => by omega⟩
        rcases hi_of h1 with h | h
        · exact absurd h a
        · rw [c, keyCmp_self] at h; omega
      | succ j =>
        simp only [List.getElem?_cons_succ] at hj
        obtain ⟨g1, g2⟩ := chain_lo r x.hi h4 j q hj
        refine ⟨fun ⟨a, c⟩ => ?_, fun h => ?_⟩
        · rcases g2 with ⟨_, g2⟩ | g2
          · omega
          · rw [c, keyCmp_self] at g2; omega
        · rcases g2 with ⟨g2, _⟩ | g2
          · exact ⟨g1, g2⟩
          · obtain rfl : j = 0 := by omega
            refine ⟨g1, ?_⟩
            cases r with
            | nil => simp at hj
            | cons y r =>
              simp only [List.getElem?_cons_zero, Option.some.injEq] at hj
              subst hj
              simp only [wholeFrom, Bool.and_eq_true, decide_eq_true_eq] at h4
              exact h4.1.1.2.symm
    | succ i =>
      simp only [List.getElem?_cons_succ] at hi
      cases j with
      | zero =>
        simp only [List.getElem?_cons_zero, Option.some.injEq] at hj
        subst hj
        refine ⟨fun ⟨a, c⟩ => ?_, fun h => by omega⟩
        exfalso
        have hp : wholeFrom true x.hi r = true := h4
        obtain ⟨g1, g2⟩ := chain_lo r x.hi hp i p hi
        have hpr : ∀ (l : List Sp) (b : Bool) (z : List UInt8), wholeFrom b z l = true → ∀ s ∈ l, spanRight s.lo s.hi = true := by
          intro l
          induction l with
          | nil => intro _ _ _ s hs; cases hs
          | cons y l ih =>
            intro b z hz s hs
            simp only [wholeFrom, Bool.and_eq_true] at hz
            cases hs with
            | head => exact hz.1.1.1
            | tail _ hs => exact ih _ _ hz.2 s hs
        have hps := hpr r _ _ hp p (List.mem_of_getElem? hi)
        have k1 : keyCmp p.lo p.hi < 0 := by
          rcases hi_of hps with h | h
          · exact absurd h a
          · exact h.2
        have k2 : keyCmp x.lo x.hi < 0 := by
          rcases hi_of h1 with h | h
          · exact absurd h g1
          · exact h.2
        have k3 : keyCmp x.lo p.lo < 0 := by
          rcases g2 with ⟨g2, _⟩ | g2
          · rw [← g2]; exact k2
          · exact keyCmp_trans k2 g2
        have k4 := keyCmp_trans k3 k1
        rw [c, keyCmp_self] at k4
        omega
      | succ j =>
        simp only [List.getElem?_cons_succ] at hj
        rw [chain_next r true x.hi h4 i j p q hi hj]
        omega
theorem whole_next {l : List Sp} (h : whole l = true) {i j : Nat} {p q : Sp} (hi : l[i]? = some p) (hj : l[j]? = some q) : (p.hi ≠ [] ∧ p.hi = q.lo) ↔ j = i + 1 := by
  simp only [whole, Bool.and_eq_true] at h
  exact chain_next l _ _ h.2 i j p q hi hj
theorem cut_in {lo hi k : List UInt8} (hs : spanRight lo hi = true) (hk : keyRight k = true) :
    (lo ≠ k ∧ keyCmp lo k ≤ 0 ∧ (hi = [] ∨ keyCmp k hi < 0)) ↔ (spanRight lo k = true ∧ spanRight k hi = true) := by
  have hlo := lo_of hs
  have hhi := hi_of hs
  have hne := keyRight_ne hk
  simp only [spanRight, Bool.and_eq_true, Bool.or_eq_true, decide_eq_true_eq, hk, hne, true_and, or_true, false_or]
  have t := cmpL_three (lets (lo.length + 1) lo) (lets (k.length + 1) k)
  have e : keyCmp lo k = cmpL (lets (lo.length + 1) lo) (lets (k.length + 1) k) := rfl
  rw [← e] at t
  constructor
  · rintro ⟨a, b, c⟩
    refine ⟨⟨hlo, ?_⟩, ?_⟩
    · rcases t with t | t | t
      · omega
      · exact absurd (keyCmp_eq hlo hk t) a
      · omega
    · rcases c with c | c
      · exact .inl c
      · rcases hhi with h | h
        · exact .inl h
        · exact .inr ⟨h.1, c⟩
  · rintro ⟨⟨_, a⟩, b⟩
    refine ⟨?_, by omega, ?_⟩
    · rintro rfl
      rw [keyCmp_self] at a; omega
    · rcases b with b | b
      · exact .inl b
      · exact .inr b.2
end Go.Proofs.YtefoleocbhkobaaGreatDoor
namespace Go.Proofs.YtefoleocbhkobaaGreatDoor
open Go Go.Ev
set_option linter.unusedSectionVars false
set_option linter.unusedSimpArgs false
set_option linter.unusedVariables false
def hasKey (lo hi k : List UInt8) : Bool := spanRight lo hi && keyRight k && decide (keyCmp lo k ≤ 0) && (decide (hi = []) || decide (keyCmp k hi < 0))
theorem has_ok {N B : Nat} (lo hi k : List UInt8) (h1 : lo.length ≤ B) (h2 : hi.length ≤ B) (h3 : k.length ≤ B) (hB : B ≤ 1000000000) (hN : 10 * B + 40 ≤ N) : run tab prim glob N 121 [.agg [.str lo, .str hi], .str k] = some (.bool (hasKey lo hi k), []) := by
  obtain ⟨n, rfl⟩ : ∃ n, N = n + 1 := ⟨N - 1, by omega⟩
  rw [enters (fn := c121) rfl]
  have r1 := spanR_ok (N := n) lo hi h1 h2 hB (by omega)
  have r2 := keyRight_ok (N := n) k (by omega) (by omega)
  have r3 := cmp_ok (N := n) lo k (by omega)
  have r4 := cmp_ok (N := n) k hi (by omega)
  unfold hasKey
  cases k1 : spanRight lo hi
  · rw [k1] at r1
    simp only [c121, o121_1, o121_2, go_sem, Nat.reduceAdd, Nat.reduceMul, reduceIte, Nat.reduceLeDiff, Int.reduceLE, Int.reduceLT, Int.reduceToNat, r1, k1]
  rw [k1] at r1
  cases k2 : keyRight k
  · rw [k2] at r2
    simp only [c121, o121_1, o121_2, go_sem, Nat.reduceAdd, Nat.reduceMul, reduceIte, Nat.reduceLeDiff, Int.reduceLE, Int.reduceLT, Int.reduceToNat, r1, r2, k1, k2]
  rw [k2] at r2
  by_cases k3 : keyCmp lo k ≤ 0
  · by_cases k4 : hi = []
    · subst k4
      simp only [c121, o121_1, o121_2, go_sem, Nat.reduceAdd, Nat.reduceMul, reduceIte, Nat.reduceLeDiff, Int.reduceLE, Int.reduceLT, Int.reduceToNat, r1, r2, r3, r4, k1, k2, k3]
    · by_cases k5 : keyCmp k hi < 0
      · simp only [c121, o121_1, o121_2, go_sem, Nat.reduceAdd, Nat.reduceMul, reduceIte, Nat.reduceLeDiff, Int.reduceLE, Int.reduceLT, Int.reduceToNat, r1, r2, r3, r4, k1, k2, k3, k4, k5]
      · simp only [c121, o121_1, o121_2, go_sem, Nat.reduceAdd, Nat.reduceMul, reduceIte, Nat.reduceLeDiff, Int.reduceLE, Int.reduceLT, Int.reduceToNat, r1, r2, r3, r4, k1, k2, k3, k4, k5]
  · simp only [c121, o121_1, o121_2, go_sem, Nat.reduceAdd, Nat.reduceMul, reduceIte, Nat.reduceLeDiff, Int.reduceLE, Int.reduceLT, Int.reduceToNat, r1, r2, r3, r4, k1, k2, k3]
def cutPV (lo hi k : List UInt8) : PV :=
  if spanRight lo hi && keyRight k then
    if spanRight lo k && spanRight k hi then .tuple [.agg [.str lo, .str k], .agg [.str k, .str hi], .int .i64 0] else .tuple [.agg [.str [], .str []], .agg [.str [], .str []], .int .i64 9]
  else .tuple [.agg [.str [], .str []], .agg [.str [], .str []], .int .i64 1]
theorem cut_ok {N B : Nat} (lo hi k : List UInt8) (h1 : lo.length ≤ B) (h2 : hi.length ≤ B) (h3 : k.length ≤ B) (hB : B ≤ 1000000000) (hN : 10 * B + 50 ≤ N) : run tab prim glob N 90 [.agg [.str lo, .str hi], .str k] = some (cutPV lo hi k, []) := by
  obtain ⟨n, rfl⟩ : ∃ n, N = n + 1 := ⟨N - 1, by omega⟩
  rw [enters (fn := c90) rfl]
  have r1 := spanR_ok (N := n) lo hi h1 h2 hB (by omega)
  have r2 := keyRight_ok (N := n) k (by omega) (by omega)
  have r3 := has_ok (N := n) lo hi k h1 h2 h3 hB (by omega)
  unfold cutPV
  cases k1 : spanRight lo hi
  · rw [k1] at r1
    simp only [c90, o90_1, o90_2, o90_3, o90_4, o90_5, o90_6, go_sem, Nat.reduceAdd, Nat.reduceMul, reduceIte, Nat.reduceLeDiff, Int.reduceLE, Int.reduceLT, Int.reduceToNat, r1, Bool.false_eq_true]
  rw [k1] at r1
  cases k2 : keyRight k
  · rw [k2] at r2
    simp only [c90, o90_1, o90_2, o90_3, o90_4, o90_5, o90_6, go_sem, Nat.reduceAdd, Nat.reduceMul, reduceIte, Nat.reduceLeDiff, Int.reduceLE, Int.reduceLT, Int.reduceToNat, r1, r2, Bool.false_eq_true]
  rw [k2] at r2
  have hc := cut_in (lo := lo) (hi := hi) (k := k) k1 k2
  by_cases k3 : k = lo
  · subst k3
    have e : (spanRight k k && spanRight k hi) = false := by
      by_cases h : spanRight k k = true ∧ spanRight k hi = true
      · exact absurd rfl (hc.2 h).1
      · simpa using h
    rw [e]
    simp only [c90, o90_1, o90_2, o90_3, o90_4, o90_5, o90_6, go_sem, Nat.reduceAdd, Nat.reduceMul, reduceIte, Nat.reduceLeDiff, Int.reduceLE, Int.reduceLT, Int.reduceToNat, r1, r2, Bool.false_eq_true]
  · have k3' : ¬ lo = k := fun h => k3 h.symm
    have e : (spanRight lo k && spanRight k hi) = hasKey lo hi k := by
      rw [Bool.eq_iff_iff, Bool.and_eq_true, ← hc]
      simp only [hasKey, k1, k2, Bool.true_and, Bool.and_eq_true, Bool.or_eq_true, decide_eq_true_eq]
      exact ⟨fun h => h.2, fun h => ⟨k3', h⟩⟩
    rw [e]
    cases k4 : hasKey lo hi k
    · rw [k4] at r3
      simp only [c90, o90_1, o90_2, o90_3, o90_4, o90_5, o90_6, go_sem, Nat.reduceAdd, Nat.reduceMul, reduceIte, Nat.reduceLeDiff, Int.reduceLE, Int.reduceLT, Int.reduceToNat, r1, r2, r3, k3, Bool.false_eq_true]
    · rw [k4] at r3
      simp only [c90, o90_1, o90_2, o90_3, o90_4, o90_5, o90_6, go_sem, Nat.reduceAdd, Nat.reduceMul, reduceIte, Nat.reduceLeDiff, Int.reduceLE, Int.reduceLT, Int.reduceToNat, r1, r2, r3, k3, Bool.false_eq_true]
theorem cut09_ok {N B : Nat} (lo hi k : List UInt8) (h1 : lo.length ≤ B) (h2 : hi.length ≤ B) (h3 : k.length ≤ B) (hB : B ≤ 1000000000) (hN : 10 * B + 50 ≤ N) : run tab prim glob N 94 [.agg [.str lo, .str hi], .str k] = some (cutPV lo hi k, []) := by
  obtain ⟨n, rfl⟩ : ∃ n, N = n + 1 := ⟨N - 1, by omega⟩
  rw [enters (fn := c94) rfl]
  have r1 := spanR09_ok (N := n) lo hi h1 h2 hB (by omega)
  have r2 := keyRight04_ok (N := n) k (by omega) (by omega)
  have r3 := spanR09_ok (N := n) lo k h1 h3 hB (by omega)
  have r4 := spanR09_ok (N := n) k hi h3 h2 hB (by omega)
  unfold cutPV
  cases k1 : spanRight lo hi
  · rw [k1] at r1
    simp only [c94, o94_1, o94_2, o94_3, o94_4, o94_5, o94_6, o94_7, go_sem, Nat.reduceAdd, Nat.reduceMul, reduceIte, Nat.reduceLeDiff, Int.reduceLE, Int.reduceLT, Int.reduceToNat, r1, Bool.false_eq_true]
  rw [k1] at r1
  cases k2 : keyRight k
  · rw [k2] at r2
    simp only [c94, o94_1, o94_2, o94_3, o94_4, o94_5, o94_6, o94_7, go_sem, Nat.reduceAdd, Nat.reduceMul, reduceIte, Nat.reduceLeDiff, Int.reduceLE, Int.reduceLT, Int.reduceToNat, r1, r2, Bool.false_eq_true]
  rw [k2] at r2
  cases k3 : spanRight lo k
  · rw [k3] at r3
    simp only [c94, o94_1, o94_2, o94_3, o94_4, o94_5, o94_6, o94_7, go_sem, Nat.reduceAdd, Nat.reduceMul, reduceIte, Nat.reduceLeDiff, Int.reduceLE, Int.reduceLT, Int.reduceToNat, r1, r2, r3, Bool.false_eq_true]
  rw [k3] at r3
  cases k4 : spanRight k hi
  · rw [k4] at r4
    simp only [c94, o94_1, o94_2, o94_3, o94_4, o94_5, o94_6, o94_7, go_sem, Nat.reduceAdd, Nat.reduceMul, reduceIte, Nat.reduceLeDiff, Int.reduceLE, Int.reduceLT, Int.reduceToNat, r1, r2, r3, r4, Bool.false_eq_true]
  · rw [k4] at r4
    simp only [c94, o94_1, o94_2, o94_3, o94_4, o94_5, o94_6, o94_7, go_sem, Nat.reduceAdd, Nat.reduceMul, reduceIte, Nat.reduceLeDiff, Int.reduceLE, Int.reduceLT, Int.reduceToNat, r1, r2, r3, r4, Bool.false_eq_true]
theorem cutPV_cases {lo hi k : List UInt8} : (∃ e : Int, e ≠ 0 ∧ cutPV lo hi k = .tuple [.agg [.str [], .str []], .agg [.str [], .str []], .int .i64 e]) ∨ cutPV lo hi k = .tuple [.agg [.str lo, .str k], .agg [.str k, .str hi], .int .i64 0] := by
  unfold cutPV
  split
  · split
    · exact .inr rfl
    · exact .inl ⟨9, by decide, rfl⟩
  · exact .inl ⟨1, by decide, rfl⟩
def readyRes (l : List Pl) (id epoch : Int) : PV :=
  if placesRight l && rng 1 1099511627776 epoch then
    match ofPl l id with
    | none => .tuple [.int .i64 0, .int .i64 7]
    | some p => if epoch ≤ p.epoch then .tuple [.int .i64 0, .int .i64 9] else .tuple [.int .i64 (idxFrom (isId id) 0 l), .int .i64 0]
  else .tuple [.int .i64 0, .int .i64 1]
theorem pl_cell (l : List Pl) (k : Nat) (p : Pl) (h : l[k]? = some p) : (l.map Pl.cells)[k]? = some p.cells := by simp [h]
theorem ready_ok {N B : Nat} (l : List Pl) (hB : B ≤ 1000000000) (hl : l.length ≤ B) (hs : ∀ p ∈ l, p.small B) (id epoch : Int) (hN : 10 * B + 80 ≤ N) : run tab prim glob N 88 [.ro (l.map Pl.cells), .int .i64 id, .int .i64 epoch] = some (readyRes l id epoch, []) := by
  obtain ⟨n, rfl⟩ : ∃ n, N = n + 1 := ⟨N - 1, by omega⟩
  rw [enters (fn := c88) rfl]
  have r1 := at_ok (N := n) l (by omega) id (by omega)
  have r2 := places_ok (N := n) l hB hl hs (by omega)
  have r3 := number_ok (N := n) (by omega) epoch
  unfold readyRes
  cases k1 : placesRight l
  · rw [k1] at r2
    simp only [c88, o88_1, o88_2, o88_3, o88_4, o88_5, o88_6, o88_7, o88_8, o88_9, go_sem, Nat.reduceAdd, Nat.reduceMul, reduceIte, Nat.reduceLeDiff, Int.reduceLE, Int.reduceLT, Int.reduceToNat, r1, r2, Bool.false_eq_true]
  rw [k1] at r2
  cases k2 : rng 1 1099511627776 epoch
  · rw [k2] at r3
    simp only [c88, o88_1, o88_2, o88_3, o88_4, o88_5, o88_6, o88_7, o88_8, o88_9, go_sem, Nat.reduceAdd, Nat.reduceMul, reduceIte, Nat.reduceLeDiff, Int.reduceLE, Int.reduceLT, Int.reduceToNat, r1, r2, r3, Bool.false_eq_true]
  rw [k2] at r3
  rcases idx_find (isId id) l 0 with ⟨h1, h2⟩ | ⟨p, k, h1, h2, h3⟩
  · rw [h2] at r1
    have h1' : ofPl l id = none := h1
    simp only [c88, o88_1, o88_2, o88_3, o88_4, o88_5, o88_6, o88_7, o88_8, o88_9, go_sem, Nat.reduceAdd, Nat.reduceMul, reduceIte, Nat.reduceLeDiff, Int.reduceLE, Int.reduceLT, Int.reduceToNat, r1, r2, r3, h1', Bool.false_eq_true]
  · have h1' : ofPl l id = some p := h1
    rw [Nat.zero_add] at h2
    rw [h2] at r1
    have g1 : ¬ ((k : Int) < 0) := by omega
    have g2 : (0 : Int) ≤ (k : Int) := by omega
    have g3 : (l.map Pl.cells)[k]? = some p.cells := by rw [List.getElem?_map, h3]; rfl
    simp only [Pl.cells] at g3
    by_cases k5 : epoch ≤ p.epoch
    · simp only [c88, o88_1, o88_2, o88_3, o88_4, o88_5, o88_6, o88_7, o88_8, o88_9, go_sem, Nat.reduceAdd, Nat.reduceMul, reduceIte, Nat.reduceLeDiff, Int.reduceLE, Int.reduceLT, Int.reduceToNat, r1, r2, r3, h1', h2, g1, g2, g3, k5, Bool.false_eq_true]
    · simp only [c88, o88_1, o88_2, o88_3, o88_4, o88_5, o88_6, o88_7, o88_8, o88_9, go_sem, Nat.reduceAdd, Nat.reduceMul, reduceIte, Nat.reduceLeDiff, Int.reduceLE, Int.reduceLT, Int.reduceToNat, r1, r2, r3, h1', h2, g1, g2, g3, k5, Bool.false_eq_true]
end Go.Proofs.YtefoleocbhkobaaGreatDoor
namespace Go.Proofs.YtefoleocbhkobaaGreatDoor
open Go Go.Ev
set_option linter.unusedSectionVars false
set_option linter.unusedSimpArgs false
set_option linter.unusedVariables false
set_option maxRecDepth 100000 in
theorem ins91_ok {N : Nat} (hN : 1 ≤ N) (rows : List (List PV)) (row : List PV) (i : Nat) (hi : i ≤ rows.length) (hl : rows.length ≤ 1500000) (hs : szOK 5 rows = true) (hr : row.length = 5) :
    run tab prim glob N 91 [.fresh 5 rows, .int .i64 i, .fresh 5 [row]] = some (.fresh 5 (rows.take i ++ [row] ++ rows.drop i), []) := by
  obtain ⟨n, rfl⟩ : ∃ n, N = n + 1 := ⟨N - 1, by omega⟩
  have h0 : run tab prim glob (n + 1) 91 [.fresh 5 rows, .int .i64 i, .fresh 5 [row]] = insC c91 5 [.fresh 5 rows, .int .i64 i, .fresh 5 [row]] := rfl
  rw [h0]
  by_cases h1 : i < rows.length
  · have h2 : (5 : Nat) = 5 ∧ (5 : Nat) = 5 ∧ 0 ≤ (i : Int) ∧ (i : Int).toNat < rows.length ∧ rows.length ≤ 1000000000 := ⟨rfl, rfl, by omega, by omega, by omega⟩
    exact if_pos h2
  · obtain rfl : i = rows.length := by omega
    have h2 : ¬ ((5 : Nat) = 5 ∧ (5 : Nat) = 5 ∧ 0 ≤ (rows.length : Int) ∧ (rows.length : Int).toNat < rows.length ∧ rows.length ≤ 1000000000) := by omega
    refine (if_neg h2).trans ?_
    have e1 : (rows.length : Int) ≤ (rows.length : Int) := by omega
    have e2 : (0 : Int) ≤ (rows.length : Int) := by omega
    have e3 : decide ((1 : Int) = 0) = false := by decide
    have e4 : Nat.beq row.length 5 = true := by rw [hr]; rfl
    have e5 : ¬ (rows.length + 1 ≤ rows.length) := by omega
    have e6 : (rows.length + 1) * 56 ≤ 140737488355328 := by omega
    have e7 : (rows ++ [row]).length = rows.length + 1 := by simp
    have e8 : (rows ++ [row]).take (rows.length + 1) = rows ++ [row] := List.take_of_length_le (by simp)
    simp only [c91, o91_1, o91_2, o91_3, o91_4, o91_5, o91_6, o91_7, o91_8, o91_9, o91_10, o91_11, o91_12, o91_13, o91_14, o91_15, o91_16, o91_17, o91_18, o91_19, o91_20, o91_21, e7, e8, e1, e2, e3, e4, e5, e6, go_sem, Nat.reduceAdd, Nat.reduceMul, reduceIte, Nat.reduceLeDiff, Int.reduceLE, Int.reduceLT, Int.reduceToNat, mentL, ment, ment1, evGh, keepE, keepH, hs, Nat.beq_refl, Nat.sub_zero, Nat.sub_self, List.take_length, List.drop_length, List.append_nil]
theorem szok_all {n : Nat} : ∀ {l : List (List PV)}, szOK n l = true ↔ ∀ r ∈ l, r.length = n
  | [] => by simp [szOK]
  | x :: r => by
    have ih := szok_all (n := n) (l := r)
    simp only [szOK, List.mem_cons, forall_eq_or_imp]
    cases hb : Nat.beq x.length n with
    | true => simp only [ih]; exact ⟨fun h => ⟨Nat.eq_of_beq_eq_true hb, h⟩, fun h => h.2⟩
    | false => exact ⟨fun h => (by cases h), fun h => (by rw [h.1, Nat.beq_refl] at hb; cases hb)⟩
theorem szok_drop {n k : Nat} (l : List (List PV)) (h : szOK n l = true) : szOK n (l.drop k) = true := szok_all.2 fun r hr => szok_all.1 h r (List.mem_of_mem_drop hr)
set_option maxRecDepth 100000 in
theorem del92_ok {N : Nat} (hN : 1 ≤ N) (rows : List (List PV)) (i : Nat) (hi : i < rows.length) (hl : rows.length ≤ 1500000) (hs : szOK 5 rows = true) :
    run tab prim glob N 92 [.fresh 5 rows, .int .i64 i, .int .i64 ((i : Int) + 1)] = some (.fresh 5 (rows.take i ++ rows.drop (i + 1)), []) := by
  obtain ⟨n, rfl⟩ : ∃ n, N = n + 1 := ⟨N - 1, by omega⟩
  rw [enters (fn := c92) rfl]
  have e1 : (i : Int) + 1 ≤ (rows.length : Int) := by omega
  have e2 : (0 : Int) ≤ (i : Int) := by omega
  have e3 : (0 : Int) ≤ (i : Int) + 1 := by omega
  have e4 : (i : Int) ≤ (i : Int) + 1 := by omega
  have e5 : ((i : Int) + 1).toNat = i + 1 := by omega
  have e6 : ¬ ((i : Int) = (i : Int) + 1) := by omega
  have e7 : (i : Int) ≤ (rows.length : Int) := by omega
  have e8 : (0 : Int) ≤ (rows.length : Int) := by omega
  have e9 : (rows.length : Int) ≤ (rows.length : Int) := by omega
  have e10 : Nat.beq rows.length i = false := by
    cases h : Nat.beq rows.length i with
    | false => rfl
    | true => have := Nat.eq_of_beq_eq_true h; omega
  have e11 : (i : Int) ≤ ((i + 1 : Nat) : Int) := by omega
  obtain ⟨T, hT⟩ : ∃ T, T = rows.drop (i + 1) := ⟨_, rfl⟩
  have hTl : T.length + (i + 1) = rows.length := by rw [hT, List.length_drop]; omega
  obtain ⟨A, hA⟩ : ∃ A, A = rows.take i := ⟨_, rfl⟩
  have hAl : A.length = i := by rw [hA, List.length_take]; omega
  obtain ⟨z, hz⟩ : ∃ z, rows.drop (i + T.length) = [z] := by
    have : (rows.drop (i + T.length)).length = 1 := by rw [List.length_drop]; omega
    match h : rows.drop (i + T.length), this with
    | [z], _ => exact ⟨z, rfl⟩
  have f1 : (rows.drop (i + 1)).take (rows.length - (i + 1)) = T := by rw [← hT]; exact List.take_of_length_le (by omega)
  have f2 : szOK 5 T = true := by rw [hT]; exact szok_drop rows hs
  have f3 : i + T.length ≤ rows.length := by omega
  rw [← hT]
  have f4 : Nat.beq (A ++ T ++ [z]).length rows.length = true := by
    rw [show (A ++ T ++ [z]).length = rows.length by simp; omega]; exact Nat.beq_refl _
  have f5 : ((i + T.length : Nat) : Int) ≤ (rows.length : Int) := by omega
  have f6 : (0 : Int) ≤ ((i + T.length : Nat) : Int) := by omega
  have f7 : rows.length - (i + T.length) = 1 := by omega
  have hAT : (A ++ T).length = i + T.length := by simp; omega
  have g1 : (A ++ T ++ [z]).take (i + T.length) = A ++ T := by rw [List.take_append_of_le_length (by omega)]; exact List.take_of_length_le (by omega)
  have g2 : (A ++ T ++ [z]).drop (i + T.length + 1) = [] := List.drop_of_length_le (by simp; omega)
  have g3 : ∀ y : List PV, Nat.beq (A ++ T ++ List.replicate 1 y).length rows.length = true := fun y => by
    have : (A ++ T ++ List.replicate 1 y).length = rows.length := by rw [List.length_append, hAT, List.length_replicate]; omega
    rw [this]; exact Nat.beq_refl _
  have g4 : ∀ y : List PV, (A ++ T ++ List.replicate 1 y).take (i + T.length) = A ++ T := fun y => by
    rw [List.take_append_of_le_length (by omega)]; exact List.take_of_length_le (by omega)
  simp only [c92, o92_1, o92_2, o92_3, o92_4, o92_5, o92_6, o92_7, o92_8, g1, g2, g3, g4, f4, f5, f6, f7, f1, f2, f3, hz, ← hA, e11, e8, e9, e10, e1, e2, e3, e4, e5, e6, e7, go_sem, Nat.reduceAdd, Nat.reduceMul, reduceIte, Nat.reduceLeDiff, Int.reduceLE, Int.reduceLT, Int.reduceToNat, mentL, ment, ment1, evGh, keepE, keepH, hs, Nat.beq_refl, Nat.sub_zero, Nat.sub_self, Int.toNat_natCast]
end Go.Proofs.YtefoleocbhkobaaGreatDoor
namespace Go.Proofs.YtefoleocbhkobaaGreatDoor
open Go Go.Ev
set_option linter.unusedSectionVars false
set_option linter.unusedSimpArgs false
set_option linter.unusedVariables false
@[go_sem] theorem dz1 : decide ((1 : Int) = 0) = false := rfl
@[go_sem] theorem dz6 : decide ((6 : Int) = 0) = false := rfl
@[go_sem] theorem dz7 : decide ((7 : Int) = 0) = false := rfl
@[go_sem] theorem dz8 : decide ((8 : Int) = 0) = false := rfl
@[go_sem] theorem dz9 : decide ((9 : Int) = 0) = false := rfl
@[go_sem] theorem dz0 : decide ((0 : Int) = 0) = true := rfl
set_option maxRecDepth 100000 in
theorem clone64_ok {N : Nat} (hN : 1 ≤ N) (l : List Pl) (hl : l.length ≤ 1000000000) : run tab prim glob N 64 [.ro (l.map Pl.cells)] = some (.fresh 5 (l.map Pl.cells), []) := by
  obtain ⟨n, rfl⟩ : ∃ n, N = n + 1 := ⟨N - 1, by omega⟩
  have e : run tab prim glob (n + 1) 64 [.ro (l.map Pl.cells)] = primC glob (lookC clonesL) 64 [.ro (l.map Pl.cells)] := rfl
  have e2 : lookC clonesL 64 = some (c64, .fresh 5 []) := rfl
  rw [e]
  cases l with
  | nil => rfl
  | cons x r =>
    have e3 : primC glob (lookC clonesL) 64 [.ro ((x :: r).map Pl.cells)] = evFn ⟨fun _ _ => none, glob⟩ (iter 0) c64 [.ro ((x :: r).map Pl.cells)] := by
      unfold primC; rw [e2]; rfl
    rw [e3]
    have h1 : ((x :: r).map Pl.cells).length * 56 ≤ 140737488355328 := by simp at hl ⊢; omega
    have h3 := take_map (x :: r) Pl.cells
    have h4 := pl_szok (x :: r)
    simp only [List.map_cons, List.length_map, List.length_cons, Pl.cells] at h1 h3 h4 ⊢
    simp only [c64, o64_1, o64_2, o64_3, o64_4, go_sem, Nat.reduceAdd, Nat.reduceMul, reduceIte, Nat.reduceLeDiff, Int.reduceLE, Int.reduceLT, Int.reduceToNat, h1, h3, h4, List.length_map, Nat.beq_refl]
def movedE (l : List Pl) (id to epoch : Int) : Int :=
  if rng 1 3 to then
    match ofPl l id with
    | none => 7
    | some p => if epoch ≤ p.epoch then 9 else if p.cell = to then 8 else 0
  else 1
theorem moved_ok {N B : Nat} (l : List Pl) (hB : B ≤ 1500000) (hl : l.length ≤ B) (hs : ∀ p ∈ l, p.small B) (hr : placesRight l = true) (id to epoch : Int) (he : rng 1 1099511627776 epoch = true) (hN : 10 * B + 90 ≤ N) :
    ∃ R, run tab prim glob N 44 [.ro (l.map Pl.cells), .int .i64 id, .int .i64 to, .int .i64 epoch] = some (.tuple [.ro R, .int .i64 (movedE l id to epoch)], []) := by
  obtain ⟨n, rfl⟩ : ∃ n, N = n + 1 := ⟨N - 1, by omega⟩
  rw [enters (fn := c44) rfl]
  have r1 := ready_ok (N := n) l (by omega) hl hs id epoch (by omega)
  have r2 := cell_ok (N := n) (by omega) to
  have r3 := clone64_ok (N := n) (by omega) l (by omega)
  unfold readyRes at r1
  unfold movedE
  rw [hr, he] at r1
  simp only [Bool.and_self, if_true] at r1
  rcases idx_find (isId id) l 0 with ⟨h1, h2⟩ | ⟨p, k, h1, h2, h3⟩
  · have h1' : ofPl l id = none := h1
    rw [h1'] at r1 ⊢
    simp only at r1
    refine ⟨[], ?_⟩
    cases k2 : rng 1 3 to
    · rw [k2] at r2
      simp only [c44, o44_1, o44_2, o44_3, o44_4, o44_5, o44_6, o44_7, o44_8, o44_9, o44_10, o44_11, go_sem, Nat.reduceAdd, Nat.reduceMul, reduceIte, Nat.reduceLeDiff, Int.reduceLE, Int.reduceLT, Int.reduceToNat, r1, r2, Bool.false_eq_true]
    · rw [k2] at r2
      simp only [c44, o44_1, o44_2, o44_3, o44_4, o44_5, o44_6, o44_7, o44_8, o44_9, o44_10, o44_11, go_sem, Nat.reduceAdd, Nat.reduceMul, reduceIte, Nat.reduceLeDiff, Int.reduceLE, Int.reduceLT, Int.reduceToNat, r1, r2]
  · have h1' : ofPl l id = some p := h1
    rw [Nat.zero_add] at h2
    rw [h1', h2] at r1
    rw [h1']
    simp only at r1 ⊢
    have g2 : (0 : Int) ≤ (k : Int) := by omega
    have g3 : (l.map Pl.cells)[k]? = some p.cells := by rw [List.getElem?_map, h3]; rfl
    simp only [Pl.cells] at g3
    cases k2 : rng 1 3 to
    · rw [k2] at r2
      refine ⟨[], ?_⟩
      by_cases k5 : epoch ≤ p.epoch
      · rw [if_pos k5] at r1
        simp only [c44, o44_1, o44_2, o44_3, o44_4, o44_5, o44_6, o44_7, o44_8, o44_9, o44_10, o44_11, go_sem, Nat.reduceAdd, Nat.reduceMul, reduceIte, Nat.reduceLeDiff, Int.reduceLE, Int.reduceLT, Int.reduceToNat, r1, r2, Bool.false_eq_true]
      · rw [if_neg k5] at r1
        simp only [c44, o44_1, o44_2, o44_3, o44_4, o44_5, o44_6, o44_7, o44_8, o44_9, o44_10, o44_11, go_sem, Nat.reduceAdd, Nat.reduceMul, reduceIte, Nat.reduceLeDiff, Int.reduceLE, Int.reduceLT, Int.reduceToNat, r1, r2, Bool.false_eq_true]
    rw [k2] at r2
    by_cases k5 : epoch ≤ p.epoch
    · rw [if_pos k5] at r1
      refine ⟨[], ?_⟩
      simp only [c44, o44_1, o44_2, o44_3, o44_4, o44_5, o44_6, o44_7, o44_8, o44_9, o44_10, o44_11, go_sem, Nat.reduceAdd, Nat.reduceMul, reduceIte, Nat.reduceLeDiff, Int.reduceLE, Int.reduceLT, Int.reduceToNat, r1, r2, k5]
    rw [if_neg k5] at r1
    by_cases k6 : p.cell = to
    · refine ⟨[], ?_⟩
      simp only [c44, o44_1, o44_2, o44_3, o44_4, o44_5, o44_6, o44_7, o44_8, o44_9, o44_10, o44_11, go_sem, Nat.reduceAdd, Nat.reduceMul, reduceIte, Nat.reduceLeDiff, Int.reduceLE, Int.reduceLT, Int.reduceToNat, mentL, ment, ment1, evGh, keepE, keepH, r1, r2, k5, k6, g2, g3]
    · refine ⟨(l.map Pl.cells).set k [.str p.lo, .str p.hi, .int .i64 p.shard, .int .i64 to, .int .i64 epoch], ?_⟩
      generalize l.map Pl.cells = L at *
      have g4 : k < L.length := (List.getElem?_eq_some_iff.1 g3).1
      have g5 : (k : Int) < (L.length : Int) := by omega
      have g6 : ∀ x, (L.set k x)[k]? = some x := fun x => List.getElem?_set_self g4
      have g7 : ∀ x, (L.set k x).take L.length = L.set k x := fun x => List.take_of_length_le (by simp)
      simp only [c44, o44_1, o44_2, o44_3, o44_4, o44_5, o44_6, o44_7, o44_8, o44_9, o44_10, o44_11, go_sem, Nat.reduceAdd, Nat.reduceMul, reduceIte, Nat.reduceLeDiff, Int.reduceLE, Int.reduceLT, Int.reduceToNat, mentL, ment, ment1, evGh, keepE, keepH, r1, r2, r3, k5, k6, g2, g3, g5, g6, g7, List.length_set, List.set_set, Nat.beq_refl]
theorem of_idx (l : List Pl) (id : Int) : (ofPl l id = none ∧ idxFrom (isId id) 0 l = -1) ∨ ∃ (p : Pl) (k : Nat), ofPl l id = some p ∧ idxFrom (isId id) 0 l = (k : Int) ∧ l[k]? = some p := by
  rcases idx_find (isId id) l 0 with ⟨h1, h2⟩ | ⟨p, k, h1, h2, h3⟩
  · exact .inl ⟨h1, h2⟩
  · rw [Nat.zero_add] at h2
    exact .inr ⟨p, k, h1, h2, h3⟩
def cutE (lo hi k : List UInt8) : Int := if spanRight lo hi && keyRight k then if spanRight lo k && spanRight k hi then 0 else 9 else 1
theorem cut_cases (lo hi k : List UInt8) : (cutPV lo hi k = .tuple [.agg [.str lo, .str k], .agg [.str k, .str hi], .int .i64 0] ∧ cutE lo hi k = 0) ∨ ∃ e : Int, decide (e = 0) = false ∧ cutPV lo hi k = .tuple [.agg [.str [], .str []], .agg [.str [], .str []], .int .i64 e] ∧ cutE lo hi k = e := by
  unfold cutPV cutE
  split
  · split
    · exact .inl ⟨rfl, rfl⟩
    · exact .inr ⟨9, rfl, rfl, rfl⟩
  · exact .inr ⟨1, rfl, rfl, rfl⟩
def partedE (l : List Pl) (id : Int) (key : List UInt8) (n : Int) : Int :=
  match ofPl l id with
  | none => 7
  | some p => if n ≤ p.epoch then 9 else if (ofPl l n).isSome then 8 else if l.length = 8 then 6 else cutE p.lo p.hi key
set_option maxRecDepth 100000 in
theorem parted_ok {N B : Nat} (l : List Pl) (hB : B ≤ 1500000) (hl : l.length ≤ B) (hs : ∀ p ∈ l, p.small B) (hr : placesRight l = true) (id : Int) (key : List UInt8) (hk : key.length ≤ B) (epoch : Int) (he : rng 1 1099511627776 epoch = true) (hN : 10 * B + 90 ≤ N) :
    ∃ R, run tab prim glob N 45 [.ro (l.map Pl.cells), .int .i64 id, .str key, .int .i64 epoch, .int .i64 epoch] = some (.tuple [.ro R, .int .i64 (partedE l id key epoch)], []) := by
  obtain ⟨n, rfl⟩ : ∃ n, N = n + 1 := ⟨N - 1, by omega⟩
  rw [enters (fn := c45) rfl]
  have r1 := ready_ok (N := n) l (by omega) hl hs id epoch (by omega)
  have r2 := number_ok (N := n) (by omega) epoch
  have r3 := clone64_ok (N := n) (by omega) l (by omega)
  have r4 := at_ok (N := n) l (by omega) epoch (by omega)
  unfold readyRes at r1
  unfold partedE
  rw [hr, he] at r1
  rw [he] at r2
  simp only [Bool.and_self, if_true] at r1
  rcases of_idx l id with ⟨h1, h2⟩ | ⟨p, k, h1, h2, h3⟩
  · rw [h1] at r1 ⊢
    simp only at r1
    refine ⟨[], ?_⟩
    simp only [c45, o45_1, o45_2, o45_3, o45_4, o45_5, o45_6, o45_7, o45_8, o45_9, o45_10, o45_11, o45_12, o45_13, o45_14, o45_15, o45_16, go_sem, Nat.reduceAdd, Nat.reduceMul, reduceIte, Nat.reduceLeDiff, Int.reduceLE, Int.reduceLT, Int.reduceToNat, r1, r2, Bool.false_eq_true]
  rw [h1, h2] at r1
  rw [h1]
  simp only at r1 ⊢
  have g2 : (0 : Int) ≤ (k : Int) := by omega
  have g3 : (l.map Pl.cells)[k]? = some p.cells := by rw [List.getElem?_map, h3]; rfl
  simp only [Pl.cells] at g3
  by_cases k5 : epoch ≤ p.epoch
  · rw [if_pos k5] at r1
    refine ⟨[], ?_⟩
    simp only [c45, o45_1, o45_2, o45_3, o45_4, o45_5, o45_6, o45_7, o45_8, o45_9, o45_10, o45_11, o45_12, o45_13, o45_14, o45_15, o45_16, go_sem, Nat.reduceAdd, Nat.reduceMul, reduceIte, Nat.reduceLeDiff, Int.reduceLE, Int.reduceLT, Int.reduceToNat, r1, r2, k5]
  rw [if_neg k5] at r1
  rcases of_idx l epoch with ⟨m1, m2⟩ | ⟨q, j, m1, m2, m3⟩
  rotate_left
  · rw [m2] at r4
    have m4 : (0 : Int) ≤ (j : Int) := by omega
    refine ⟨[], ?_⟩
    simp only [c45, o45_1, o45_2, o45_3, o45_4, o45_5, o45_6, o45_7, o45_8, o45_9, o45_10, o45_11, o45_12, o45_13, o45_14, o45_15, o45_16, go_sem, Nat.reduceAdd, Nat.reduceMul, reduceIte, Nat.reduceLeDiff, Int.reduceLE, Int.reduceLT, Int.reduceToNat, r1, r2, r4, k5, m1, m4, Option.isSome_some]
  rw [m2] at r4
  have m4 : ¬ ((0 : Int) ≤ -1) := by decide
  by_cases k6 : l.length = 8
  · refine ⟨[], ?_⟩
    have k7 : ((8 : Nat) : Int) = 8 := rfl
    simp only [c45, o45_1, o45_2, o45_3, o45_4, o45_5, o45_6, o45_7, o45_8, o45_9, o45_10, o45_11, o45_12, o45_13, o45_14, o45_15, o45_16, go_sem, Nat.reduceAdd, Nat.reduceMul, reduceIte, Nat.reduceLeDiff, Int.reduceLE, Int.reduceLT, Int.reduceToNat, r1, r2, r4, k5, m1, m4, k6, k7, List.length_map, Option.isSome_none, Bool.false_eq_true]
  have k7 : ¬ ((l.length : Int) = 8) := by omega
  have hps := hs p (List.mem_of_getElem? h3)
  have r5 := cut_ok (N := n) p.lo p.hi key hps.1 hps.2 hk (by omega) (by omega)
  rcases cut_cases p.lo p.hi key with ⟨q1, q2⟩ | ⟨e, q0, q1, q2⟩
  rotate_left
  · rw [q1] at r5
    refine ⟨[], ?_⟩
    simp only [c45, o45_1, o45_2, o45_3, o45_4, o45_5, o45_6, o45_7, o45_8, o45_9, o45_10, o45_11, o45_12, o45_13, o45_14, o45_15, o45_16, go_sem, Nat.reduceAdd, Nat.reduceMul, reduceIte, Nat.reduceLeDiff, Int.reduceLE, Int.reduceLT, Int.reduceToNat, r1, r2, r4, r5, k5, m1, m4, k6, k7, q0, q2, g2, g3, List.length_map, Option.isSome_none, Bool.false_eq_true]
  rw [q1] at r5
  have g4 : k < l.length := (List.getElem?_eq_some_iff.1 h3).1
  have r6 := ins91_ok (N := n) (by omega) (l.map Pl.cells) [.str key, .str p.hi, .int .i64 epoch, .int .i64 p.cell, .int .i64 epoch] (k + 1) (by simp; omega) (by simp; omega) (pl_szok l) rfl
  obtain ⟨R, hR⟩ : ∃ R, R = (l.map Pl.cells).take (k + 1) ++ [[.str key, .str p.hi, .int .i64 epoch, .int .i64 p.cell, .int .i64 epoch]] ++ (l.map Pl.cells).drop (k + 1) := ⟨_, rfl⟩
  rw [← hR, show ((k + 1 : Nat) : Int) = (k : Int) + 1 by omega] at r6
  have hRl : R.length = l.length + 1 := by rw [hR]; simp; omega
  have hRk : R[k]? = some [.str p.lo, .str p.hi, .int .i64 p.shard, .int .i64 p.cell, .int .i64 p.epoch] := by
    rw [hR, List.append_assoc, List.getElem?_append_left (by simp; omega), List.getElem?_take, if_pos (by omega), g3]
  clear hR
  refine ⟨R.set k [.str p.lo, .str key, .int .i64 p.shard, .int .i64 p.cell, .int .i64 epoch], ?_⟩
  have g5 : (k : Int) < (R.length : Int) := by omega
  have g6 : ∀ x, (R.set k x)[k]? = some x := fun x => List.getElem?_set_self (by omega)
  have g7 : ∀ x, (R.set k x).take R.length = R.set k x := fun x => List.take_of_length_le (by simp)
  have g8 : IntKind.i64.wrap ((k : Int) + 1) = (k : Int) + 1 := IntWalk.i64_in _ (by omega)
  have g9 : (l.map Pl.cells).take l.length = l.map Pl.cells := List.take_of_length_le (by simp)
  simp only [c45, o45_1, o45_2, o45_3, o45_4, o45_5, o45_6, o45_7, o45_8, o45_9, o45_10, o45_11, o45_12, o45_13, o45_14, o45_15, o45_16, g9, go_sem, Nat.reduceAdd, Nat.reduceMul, reduceIte, Nat.reduceLeDiff, Int.reduceLE, Int.reduceLT, Int.reduceToNat, mentL, ment, ment1, evGh, keepE, keepH, r1, r2, r3, r4, r5, r6, k5, m1, m4, k6, k7, q2, g2, g3, g5, g6, g7, g8, hRk, List.length_map, List.length_set, List.set_set, Nat.beq_refl, Option.isSome_none, Bool.false_eq_true]
end Go.Proofs.YtefoleocbhkobaaGreatDoor
namespace Go.Proofs.YtefoleocbhkobaaGreatDoor
open Go Go.Ev
set_option linter.unusedSectionVars false
set_option linter.unusedSimpArgs false
set_option linter.unusedVariables false
def joinedE (l : List Pl) (id other epoch : Int) : Int :=
  if rng 1 1099511627776 other then
    match ofPl l id with
    | none => 7
    | some p => if epoch ≤ p.epoch then 9 else
      match ofPl l other with
      | none => 7
      | some r => if (p.hi ≠ [] ∧ p.hi = r.lo) ∧ p.cell = r.cell ∧ ¬ epoch ≤ r.epoch then 0 else 9
  else 1
theorem places_whole {l : List Pl} (h : placesRight l = true) : whole (l.map Pl.span) = true := by
  simp only [placesRight, Bool.and_eq_true] at h
  exact h.2
theorem next_iff {l : List Pl} (h : placesRight l = true) {i j : Nat} {p q : Pl} (hi : l[i]? = some p) (hj : l[j]? = some q) : (p.hi ≠ [] ∧ p.hi = q.lo) ↔ j = i + 1 :=
  whole_next (places_whole h) (p := p.span) (q := q.span) (by simp [hi]) (by simp [hj])
set_option maxRecDepth 100000 in
set_option maxHeartbeats 1500000 in
theorem joined_ok {N B : Nat} (l : List Pl) (hB : B ≤ 1500000) (hl : l.length ≤ B) (hs : ∀ p ∈ l, p.small B) (hr : placesRight l = true) (id other epoch : Int) (he : rng 1 1099511627776 epoch = true) (hN : 10 * B + 90 ≤ N) :
    ∃ R, run tab prim glob N 46 [.ro (l.map Pl.cells), .int .i64 id, .int .i64 other, .int .i64 epoch] = some (.tuple [.ro R, .int .i64 (joinedE l id other epoch)], []) := by
  obtain ⟨n, rfl⟩ : ∃ n, N = n + 1 := ⟨N - 1, by omega⟩
  rw [enters (fn := c46) rfl]
  have r1 := ready_ok (N := n) l (by omega) hl hs id epoch (by omega)
  have r2 := number_ok (N := n) (by omega) other
  have r3 := clone64_ok (N := n) (by omega) l (by omega)
  have r4 := at_ok (N := n) l (by omega) other (by omega)
  unfold readyRes at r1
  unfold joinedE
  rw [hr, he] at r1
  simp only [Bool.and_self, if_true] at r1
  cases k0 : rng 1 1099511627776 other
  · rw [k0] at r2
    refine ⟨[], ?_⟩
    rcases of_idx l id with ⟨h1, h2⟩ | ⟨p, k, h1, h2, h3⟩
    · rw [h1] at r1
      simp only at r1
      simp only [c46, o46_1, o46_2, o46_3, o46_4, o46_5, o46_6, o46_7, o46_8, o46_9, o46_10, o46_11, o46_12, o46_13, o46_14, go_sem, Nat.reduceAdd, Nat.reduceMul, reduceIte, Nat.reduceLeDiff, Int.reduceLE, Int.reduceLT, Int.reduceToNat, r1, r2, r4, Bool.false_eq_true]
    · rw [h1] at r1
      by_cases k5 : epoch ≤ p.epoch
      · simp only [k5, if_true] at r1
        simp only [c46, o46_1, o46_2, o46_3, o46_4, o46_5, o46_6, o46_7, o46_8, o46_9, o46_10, o46_11, o46_12, o46_13, o46_14, go_sem, Nat.reduceAdd, Nat.reduceMul, reduceIte, Nat.reduceLeDiff, Int.reduceLE, Int.reduceLT, Int.reduceToNat, r1, r2, r4, Bool.false_eq_true]
      · simp only [k5, if_false] at r1
        simp only [c46, o46_1, o46_2, o46_3, o46_4, o46_5, o46_6, o46_7, o46_8, o46_9, o46_10, o46_11, o46_12, o46_13, o46_14, go_sem, Nat.reduceAdd, Nat.reduceMul, reduceIte, Nat.reduceLeDiff, Int.reduceLE, Int.reduceLT, Int.reduceToNat, r1, r2, r4, Bool.false_eq_true]
  rw [k0] at r2
  rcases of_idx l id with ⟨h1, h2⟩ | ⟨p, k, h1, h2, h3⟩
  · rw [h1] at r1 ⊢
    simp only at r1
    refine ⟨[], ?_⟩
    simp only [c46, o46_1, o46_2, o46_3, o46_4, o46_5, o46_6, o46_7, o46_8, o46_9, o46_10, o46_11, o46_12, o46_13, o46_14, go_sem, Nat.reduceAdd, Nat.reduceMul, reduceIte, Nat.reduceLeDiff, Int.reduceLE, Int.reduceLT, Int.reduceToNat, r1, r2, r4, Bool.false_eq_true]
  rw [h1, h2] at r1
  rw [h1]
  simp only at r1 ⊢
  by_cases k5 : epoch ≤ p.epoch
  · rw [if_pos k5] at r1
    refine ⟨[], ?_⟩
    simp only [c46, o46_1, o46_2, o46_3, o46_4, o46_5, o46_6, o46_7, o46_8, o46_9, o46_10, o46_11, o46_12, o46_13, o46_14, go_sem, Nat.reduceAdd, Nat.reduceMul, reduceIte, Nat.reduceLeDiff, Int.reduceLE, Int.reduceLT, Int.reduceToNat, r1, r2, r4, k5]
  rw [if_neg k5] at r1
  rcases of_idx l other with ⟨m1, m2⟩ | ⟨q, j, m1, m2, m3⟩
  · rw [m2] at r4
    have m4 : (-1 : Int) < 0 := by decide
    refine ⟨[], ?_⟩
    simp only [c46, o46_1, o46_2, o46_3, o46_4, o46_5, o46_6, o46_7, o46_8, o46_9, o46_10, o46_11, o46_12, o46_13, o46_14, go_sem, Nat.reduceAdd, Nat.reduceMul, reduceIte, Nat.reduceLeDiff, Int.reduceLE, Int.reduceLT, Int.reduceToNat, r1, r2, r4, k5, m1, m4]
  rw [m2] at r4
  have m4 : ¬ ((j : Int) < 0) := by omega
  have hnx := next_iff hr h3 m3
  have g2 : (0 : Int) ≤ (k : Int) := by omega
  have g3 : (l.map Pl.cells)[k]? = some p.cells := by rw [List.getElem?_map, h3]; rfl
  have n2 : (0 : Int) ≤ (j : Int) := by omega
  have n3 : (l.map Pl.cells)[j]? = some q.cells := by rw [List.getElem?_map, m3]; rfl
  simp only [Pl.cells] at g3 n3
  have g4 : k < l.length := (List.getElem?_eq_some_iff.1 h3).1
  have n4 : j < l.length := (List.getElem?_eq_some_iff.1 m3).1
  have g8 : IntKind.i64.wrap ((k : Int) + 1) = (k : Int) + 1 := IntWalk.i64_in _ (by omega)
  have n8 : IntKind.i64.wrap ((j : Int) + 1) = (j : Int) + 1 := IntWalk.i64_in _ (by omega)
  rw [m1]
  simp only [hnx, if_true, k5, if_false]
  by_cases d1 : j = k + 1
  rotate_left
  · have d2 : ¬ ((j : Int) = (k : Int) + 1) := by omega
    refine ⟨[], ?_⟩
    simp only [c46, o46_1, o46_2, o46_3, o46_4, o46_5, o46_6, o46_7, o46_8, o46_9, o46_10, o46_11, o46_12, o46_13, o46_14, go_sem, Nat.reduceAdd, Nat.reduceMul, reduceIte, Nat.reduceLeDiff, Int.reduceLE, Int.reduceLT, Int.reduceToNat, mentL, ment, ment1, evGh, keepE, keepH, r1, r2, r4, k5, m1, m4, d1, d2, g8, false_and, if_false]
  have d2 : ((j : Int) = (k : Int) + 1) = True := eq_true (by omega)
  by_cases d3 : p.cell = q.cell
  rotate_left
  · refine ⟨[], ?_⟩
    simp only [c46, o46_1, o46_2, o46_3, o46_4, o46_5, o46_6, o46_7, o46_8, o46_9, o46_10, o46_11, o46_12, o46_13, o46_14, go_sem, Nat.reduceAdd, Nat.reduceMul, reduceIte, Nat.reduceLeDiff, Int.reduceLE, Int.reduceLT, Int.reduceToNat, mentL, ment, ment1, evGh, keepE, keepH, r1, r2, r4, k5, m1, m4, d2, d3, g2, g3, n2, n3, g8, false_and, and_false, if_false]
  by_cases d4 : epoch ≤ q.epoch
  · refine ⟨[], ?_⟩
    simp only [c46, o46_1, o46_2, o46_3, o46_4, o46_5, o46_6, o46_7, o46_8, o46_9, o46_10, o46_11, o46_12, o46_13, o46_14, go_sem, Nat.reduceAdd, Nat.reduceMul, reduceIte, Nat.reduceLeDiff, Int.reduceLE, Int.reduceLT, Int.reduceToNat, mentL, ment, ment1, evGh, keepE, keepH, r1, r2, r4, k5, m1, m4, d2, d3, d4, g2, g3, n2, n3, g8, not_true, false_and, and_false, if_false]
  have r6 := del92_ok (N := n) (by omega) (l.map Pl.cells) j (by simp; omega) (by simp; omega) (pl_szok l)
  obtain ⟨R, hR⟩ : ∃ R, R = (l.map Pl.cells).take j ++ (l.map Pl.cells).drop (j + 1) := ⟨_, rfl⟩
  rw [← hR] at r6
  have hRl : R.length + 1 = l.length := by rw [hR]; simp; omega
  have hRk : R[k]? = some [.str p.lo, .str p.hi, .int .i64 p.shard, .int .i64 p.cell, .int .i64 p.epoch] := by
    rw [hR, List.getElem?_append_left (by simp; omega), List.getElem?_take, if_pos (by omega), g3]
  clear hR
  refine ⟨R.set k [.str p.lo, .str q.hi, .int .i64 p.shard, .int .i64 p.cell, .int .i64 epoch], ?_⟩
  have g5 : (k : Int) < (R.length : Int) := by omega
  have g6 : ∀ x, (R.set k x)[k]? = some x := fun x => List.getElem?_set_self (by omega)
  have g7 : ∀ x, (R.set k x).take R.length = R.set k x := fun x => List.take_of_length_le (by simp)
  have g9 : (l.map Pl.cells).take l.length = l.map Pl.cells := List.take_of_length_le (by simp)
  rw [if_pos ⟨d1, d3, d4⟩]
  simp only [c46, o46_1, o46_2, o46_3, o46_4, o46_5, o46_6, o46_7, o46_8, o46_9, o46_10, o46_11, o46_12, o46_13, o46_14, g9, go_sem, Nat.reduceAdd, Nat.reduceMul, reduceIte, Nat.reduceLeDiff, Int.reduceLE, Int.reduceLT, Int.reduceToNat, mentL, ment, ment1, evGh, keepE, keepH, r1, r2, r3, r4, r6, k5, m1, m4, d2, d3, d4, g2, g3, g5, g6, g7, g8, n2, n3, n8, hRk, List.length_map, List.length_set, List.set_set, Nat.beq_refl, Bool.false_eq_true]
end Go.Proofs.YtefoleocbhkobaaGreatDoor
namespace Go.Proofs.YtefoleocbhkobaaGreatDoor
open Go Go.Ev
set_option linter.unusedSectionVars false
set_option linter.unusedSimpArgs false
set_option linter.unusedVariables false
def turnOne (id : Int) (o : List Pl) (p : Pl) : List Pl := if p.shard = id then o else [p]
set_option maxHeartbeats 1500000 in
theorem loop93 {n : Nat} (l : List Pl) (hl : l.length ≤ 1500000) (id : Int) (o : List Pl) (ho : o.length ≤ 2) : ∀ (rest pre : List Pl) (acc : List Pl) (m : Nat) (env : Env) (H : Heap), l = pre ++ rest → acc.length ≤ 2 * pre.length → rest.length + 1 ≤ m →
    evGh (.keep [0, 1, 2, 7, 8] [300007]) env H = some ([(0, .ro (l.map Pl.cells)), (1, .int .i64 id), (2, .ro (o.map Pl.cells)), (7, .own 300007 0 acc.length acc.length), (8, .int .i64 pre.length)],
      [(300007, .arr 5 (acc.map Pl.cells))]) →
    Ends (iter m (evCode ⟨run tab prim glob n, glob⟩ (iter n) b93_1) env H) (fun ex e h => ex = .exit 0 ∧ getT e 7 = .own 300007 0 (acc ++ rest.flatMap (turnOne id o)).length (acc ++ rest.flatMap (turnOne id o)).length ∧ h = [(300007, .arr 5 ((acc ++ rest.flatMap (turnOne id o)).map Pl.cells))])
  | [], pre, acc, m + 1, env, H, hp, ha, hm, hk => by
    have e0 : pre.length = l.length := by rw [hp]; simp
    rw [iter_step]
    generalize iter m (evCode ⟨run tab prim glob n, glob⟩ (iter n) b93_1) = g
    simp only [b93_1, ob93_1_1, ob93_1_2, ob93_1_3, ob93_1_4, ob93_1_5, hk, go_sem, Nat.reduceAdd, Nat.reduceMul, reduceIte, Nat.reduceLeDiff, Int.reduceLE, Int.reduceLT, Int.reduceToNat, e0, Int.lt_irrefl, afterIt, List.flatMap_nil, List.length_map]
    exact Ends.of ⟨rfl, rfl, rfl⟩
  | x :: rest, pre, acc, m + 1, env, H, hp, ha, hm, hk => by
    have e0 : pre.length < l.length := by rw [hp]; simp
    have e1 : (pre.length : Int) < (l.length : Int) := by omega
    have e2 : (0 : Int) ≤ (pre.length : Int) := by omega
    have e3 := at_pre Pl.cells hp
    have e4 : IntKind.i64.wrap ((pre.length : Int) + 1) = ((pre.length + 1 : Nat) : Int) := cast_add (by omega)
    have ih := loop93 (n := n) l hl id o ho rest (pre ++ [x]) (acc ++ turnOne id o x) m
    have fin : (x :: rest).flatMap (turnOne id o) = turnOne id o x ++ rest.flatMap (turnOne id o) := rfl
    rw [iter_step, fin, ← List.append_assoc]
    generalize iter m (evCode ⟨run tab prim glob n, glob⟩ (iter n) b93_1) = g at ih ⊢
    generalize acc ++ turnOne id o x ++ rest.flatMap (turnOne id o) = R at ih ⊢
    rw [len1 pre x] at ih
    by_cases k1 : x.shard = id
    · have e8 : turnOne id o x = o := if_pos k1
      rw [e8] at ih
      simp only [Pl.cells, k1] at e3
      cases hoo : o with
      | nil =>
        rw [hoo, List.append_nil] at ih
        simp only [List.map_nil] at ih
        have e6 : acc.length ≤ acc.length := Nat.le_refl _
        have e9 : (acc.map Pl.cells).length = acc.length := by simp
        have e10 : (acc.map Pl.cells).take acc.length = acc.map Pl.cells := List.take_of_length_le (by simp)
        have e11 : (acc.map Pl.cells).drop acc.length = [] := List.drop_of_length_le (by simp)
        rw [hoo] at hk
        simp only [List.map_nil] at hk
        simp only [b93_1, ob93_1_1, ob93_1_2, ob93_1_3, ob93_1_4, ob93_1_5, hk, go_sem, Nat.reduceAdd, Nat.reduceMul, reduceIte, Nat.reduceLeDiff, Int.reduceLE, Int.reduceLT, Int.reduceToNat, e1, e2, e3, e4, e6, e9, e10, e11, k1, List.length_map, Nat.beq_refl, afterIt]
        exact ih _ _ (by rw [hp]; simp) (by omega) (by simp at hm; omega) rfl
      | cons y r =>
        rw [hoo] at ho hk ih
        have hol : (y :: r).length = r.length + 1 := rfl
        have e6 : ¬ acc.length + (y :: r).length ≤ acc.length := by omega
        have e7 : (acc.length + (y :: r).length) * 56 ≤ 140737488355328 := by omega
        have e10 : (acc.map Pl.cells).take acc.length = acc.map Pl.cells := List.take_of_length_le (by simp)
        have e12 := pl_szok (y :: r)
        have e13 : (acc ++ (y :: r)).length = acc.length + (y :: r).length := by simp
        have e14 : (acc ++ (y :: r)).map Pl.cells = acc.map Pl.cells ++ (y :: r).map Pl.cells := by simp
        have ha' : acc.length + (y :: r).length ≤ 2 * (pre.length + 1) := by omega
        rw [e13, e14] at ih
        generalize y :: r = o at *
        simp only [b93_1, ob93_1_1, ob93_1_2, ob93_1_3, ob93_1_4, ob93_1_5, hk, go_sem, Nat.reduceAdd, Nat.reduceMul, reduceIte, Nat.reduceLeDiff, Int.reduceLE, Int.reduceLT, Int.reduceToNat, e1, e2, e3, e4, e6, e7, e10, e12, k1, List.length_map, Nat.beq_refl, afterIt]
        exact ih _ _ (by rw [hp]; simp) (by omega) (by simp at hm; omega) rfl
    · have e8 : turnOne id o x = [x] := if_neg k1
      have e6 : ¬ acc.length + 1 ≤ acc.length := by omega
      have e7 : (acc.length + 1) * 56 ≤ 140737488355328 := by omega
      rw [e8] at ih
      simp only [Pl.cells] at e3
      simp only [len1, List.map_append, List.map_cons, List.map_nil] at ih
      simp only [b93_1, ob93_1_1, ob93_1_2, ob93_1_3, ob93_1_4, ob93_1_5, hk, go_sem, Nat.reduceAdd, Nat.reduceMul, reduceIte, Nat.reduceLeDiff, Int.reduceLE, Int.reduceLT, Int.reduceToNat, e1, e2, e3, e4, e6, e7, k1, List.length_map, Nat.beq_refl, afterIt]
      exact ih _ _ (by rw [hp]; simp) (by omega) (by simp at hm; omega) rfl
theorem turn_ok {N : Nat} (l : List Pl) (hl : l.length ≤ 1500000) (id : Int) (o : List Pl) (ho : o.length ≤ 2) (hN : l.length + 10 ≤ N) :
    run tab prim glob N 93 [.ro (l.map Pl.cells), .int .i64 id, .ro (o.map Pl.cells)] = some (.ro ((l.flatMap (turnOne id o)).map Pl.cells), []) := by
  obtain ⟨n, rfl⟩ : ∃ n, N = n + 1 := ⟨N - 1, by omega⟩
  rw [enters (fn := c93) rfl]
  have hL := fun env H h => loop93 (n := n) l hl id o ho l [] [] n env H rfl (by simp) (by omega) h
  generalize hg : iter n (evCode ⟨run tab prim glob n, glob⟩ (iter n) b93_1) = g at hL
  simp only [c93, o93_1, o93_2, o93_3, o93_4, go_sem, Nat.reduceAdd, Nat.reduceMul, reduceIte, Nat.reduceLeDiff, Int.reduceLE, Int.reduceLT, Int.reduceToNat, mentL, ment, ment1, evGh, keepE, keepH, hg, List.length_map]
  generalize hE : g _ _ = o
  obtain ⟨ex, env', H', rfl, rfl, h2, rfl⟩ := Ends.at hL hE (by simp only [go_sem, Nat.reduceAdd, Nat.reduceMul, reduceIte, Nat.reduceLeDiff, Int.reduceLE, Int.reduceLT, Int.reduceToNat, mentL, ment, ment1, evGh, keepE, keepH])
  simp only [go_sem, Nat.reduceAdd, Nat.reduceMul, reduceIte, Nat.reduceLeDiff, Int.reduceLE, Int.reduceLT, Int.reduceToNat, h2, Nat.beq_refl, List.length_map, take_map, List.nil_append]
theorem turn_len (l : List Pl) (id : Int) : (l.flatMap (turnOne id [])).length ≤ l.length := by
  induction l with
  | nil => exact Nat.le_refl _
  | cons x r ih =>
    have : (turnOne id [] x).length ≤ 1 := by unfold turnOne; split <;> simp
    simp only [List.flatMap_cons, List.length_append, List.length_cons]; omega
theorem whole_mem : ∀ (l : List Sp) (b : Bool) (z : List UInt8), wholeFrom b z l = true → ∀ s ∈ l, spanRight s.lo s.hi = true
  | [], _, _, _, s, hs => by cases hs
  | y :: l, b, z, hz, s, hs => by
    simp only [wholeFrom, Bool.and_eq_true] at hz
    cases hs with
    | head => exact hz.1.1.1
    | tail _ hs => exact whole_mem l _ _ hz.2 s hs
theorem span_of {l : List Pl} (h : placesRight l = true) {i : Nat} {p : Pl} (hi : l[i]? = some p) : spanRight p.lo p.hi = true := by
  have hw := places_whole h
  simp only [whole, Bool.and_eq_true] at hw
  exact whole_mem _ _ _ hw.2 p.span (List.mem_map.2 ⟨p, List.mem_of_getElem? hi, rfl⟩)
set_option maxRecDepth 100000 in
set_option maxHeartbeats 1500000 in
theorem change0_ok {N B : Nat} (l : List Pl) (hB : B ≤ 1500000) (hl : l.length ≤ B) (hs : ∀ p ∈ l, p.small B) (hr : placesRight l = true) (id to epoch : Int) (key : List UInt8) (he : rng 1 1099511627776 epoch = true) (hN : 10 * B + 90 ≤ N) :
    ∃ R, run tab prim glob N 52 [.ro (l.map Pl.cells), .int .i64 0, .int .i64 id, .int .i64 to, .str key, .int .i64 epoch] = some (.tuple [.ro R, .int .i64 (movedE l id to epoch)], []) := by
  obtain ⟨n, rfl⟩ : ∃ n, N = n + 1 := ⟨N - 1, by omega⟩
  rw [enters (fn := c52) rfl]
  have r1 := places15_ok (N := n) l (by omega) hl hs (by omega)
  have r2 := number15_ok (N := n) (by omega) epoch
  have r3 := number15_ok (N := n) (by omega) to
  have r4 := at15_ok (N := n) l (by omega) id (by omega)
  unfold movedE
  rw [hr] at r1
  rw [he] at r2
  by_cases t1 : to < 1
  · have e1 : rng 1 3 to = false := by simp [rng]; omega
    rw [e1]
    refine ⟨[], ?_⟩
    simp only [c52, o52_1, o52_2, o52_3, o52_4, o52_5, o52_6, o52_7, o52_8, o52_9, o52_10, o52_11, o52_12, o52_13, o52_14, o52_15, o52_16, o52_17, o52_18, o52_19, o52_20, o52_21, o52_22, o52_23, o52_24, o52_25, o52_26, o52_27, o52_28, o52_29, o52_30, o52_31, o52_32, o52_33, o52_34, o52_35, o52_36, go_sem, Nat.reduceAdd, Nat.reduceMul, reduceIte, Nat.reduceLeDiff, Int.reduceLE, Int.reduceLT, Int.reduceToNat, r1, r2, t1, Bool.false_eq_true]
  by_cases t2 : to > 3
  · have e1 : rng 1 3 to = false := by simp [rng]; omega
    rw [e1]
    refine ⟨[], ?_⟩
    simp only [c52, o52_1, o52_2, o52_3, o52_4, o52_5, o52_6, o52_7, o52_8, o52_9, o52_10, o52_11, o52_12, o52_13, o52_14, o52_15, o52_16, o52_17, o52_18, o52_19, o52_20, o52_21, o52_22, o52_23, o52_24, o52_25, o52_26, o52_27, o52_28, o52_29, o52_30, o52_31, o52_32, o52_33, o52_34, o52_35, o52_36, go_sem, Nat.reduceAdd, Nat.reduceMul, reduceIte, Nat.reduceLeDiff, Int.reduceLE, Int.reduceLT, Int.reduceToNat, r1, r2, t1, t2, Bool.false_eq_true]
  have e1 : rng 1 3 to = true := by simp [rng]; omega
  have e2 : rng 1 1099511627776 to = true := by simp [rng]; omega
  rw [e2] at r3
  rw [e1]
  rcases of_idx l id with ⟨h1, h2⟩ | ⟨p, k, h1, h2, h3⟩
  · rw [h2] at r4
    rw [h1]
    have m4 : (-1 : Int) < 0 := by decide
    refine ⟨[], ?_⟩
    simp only [c52, o52_1, o52_2, o52_3, o52_4, o52_5, o52_6, o52_7, o52_8, o52_9, o52_10, o52_11, o52_12, o52_13, o52_14, o52_15, o52_16, o52_17, o52_18, o52_19, o52_20, o52_21, o52_22, o52_23, o52_24, o52_25, o52_26, o52_27, o52_28, o52_29, o52_30, o52_31, o52_32, o52_33, o52_34, o52_35, o52_36, go_sem, Nat.reduceAdd, Nat.reduceMul, reduceIte, Nat.reduceLeDiff, Int.reduceLE, Int.reduceLT, Int.reduceToNat, r1, r2, r3, r4, t1, t2, m4]
  rw [h2] at r4
  rw [h1]
  have m4 : ¬ (k : Int) < 0 := by omega
  have g2 : (0 : Int) ≤ (k : Int) := by omega
  have g3 : (l.map Pl.cells)[k]? = some p.cells := by rw [List.getElem?_map, h3]; rfl
  simp only [Pl.cells] at g3
  by_cases k5 : epoch ≤ p.epoch
  · refine ⟨[], ?_⟩
    simp only [c52, o52_1, o52_2, o52_3, o52_4, o52_5, o52_6, o52_7, o52_8, o52_9, o52_10, o52_11, o52_12, o52_13, o52_14, o52_15, o52_16, o52_17, o52_18, o52_19, o52_20, o52_21, o52_22, o52_23, o52_24, o52_25, o52_26, o52_27, o52_28, o52_29, o52_30, o52_31, o52_32, o52_33, o52_34, o52_35, o52_36, go_sem, Nat.reduceAdd, Nat.reduceMul, reduceIte, Nat.reduceLeDiff, Int.reduceLE, Int.reduceLT, Int.reduceToNat, mentL, ment, ment1, evGh, keepE, keepH, r1, r2, r3, r4, t1, t2, m4, g2, g3, k5]
  by_cases k6 : p.cell = to
  · refine ⟨[], ?_⟩
    simp only [c52, o52_1, o52_2, o52_3, o52_4, o52_5, o52_6, o52_7, o52_8, o52_9, o52_10, o52_11, o52_12, o52_13, o52_14, o52_15, o52_16, o52_17, o52_18, o52_19, o52_20, o52_21, o52_22, o52_23, o52_24, o52_25, o52_26, o52_27, o52_28, o52_29, o52_30, o52_31, o52_32, o52_33, o52_34, o52_35, o52_36, go_sem, Nat.reduceAdd, Nat.reduceMul, reduceIte, Nat.reduceLeDiff, Int.reduceLE, Int.reduceLT, Int.reduceToNat, mentL, ment, ment1, evGh, keepE, keepH, r1, r2, r3, r4, t1, t2, m4, g2, g3, k5, k6]
  · have r5 := turn_ok (N := n) l (by omega) id [⟨p.lo, p.hi, p.shard, to, epoch⟩] (by simp) (by omega)
    simp only [List.map_cons, List.map_nil, Pl.cells] at r5
    generalize (l.flatMap (turnOne id [⟨p.lo, p.hi, p.shard, to, epoch⟩])).map Pl.cells = R at r5
    refine ⟨R, ?_⟩
    cases R <;> simp only [c52, o52_1, o52_2, o52_3, o52_4, o52_5, o52_6, o52_7, o52_8, o52_9, o52_10, o52_11, o52_12, o52_13, o52_14, o52_15, o52_16, o52_17, o52_18, o52_19, o52_20, o52_21, o52_22, o52_23, o52_24, o52_25, o52_26, o52_27, o52_28, o52_29, o52_30, o52_31, o52_32, o52_33, o52_34, o52_35, o52_36, go_sem, Nat.reduceAdd, Nat.reduceMul, reduceIte, Nat.reduceLeDiff, Int.reduceLE, Int.reduceLT, Int.reduceToNat, mentL, ment, ment1, evGh, keepE, keepH, r1, r2, r3, r4, r5, t1, t2, m4, g2, g3, k5, k6]
set_option maxRecDepth 100000 in
set_option maxHeartbeats 1500000 in
theorem change1_ok {N B : Nat} (l : List Pl) (hB : B ≤ 1500000) (hl : l.length ≤ B) (hs : ∀ p ∈ l, p.small B) (hr : placesRight l = true) (id epoch : Int) (key : List UInt8) (hk : key.length ≤ B) (he : rng 1 1099511627776 epoch = true) (hN : 10 * B + 90 ≤ N) :
    ∃ R, run tab prim glob N 52 [.ro (l.map Pl.cells), .int .i64 1, .int .i64 id, .int .i64 epoch, .str key, .int .i64 epoch] = some (.tuple [.ro R, .int .i64 (partedE l id key epoch)], []) := by
  obtain ⟨n, rfl⟩ : ∃ n, N = n + 1 := ⟨N - 1, by omega⟩
  rw [enters (fn := c52) rfl]
  have r1 := places15_ok (N := n) l (by omega) hl hs (by omega)
  have r2 := number15_ok (N := n) (by omega) epoch
  have r4 := at15_ok (N := n) l (by omega) id (by omega)
  have r3 := at15_ok (N := n) l (by omega) epoch (by omega)
  unfold partedE
  rw [hr] at r1
  rw [he] at r2
  have t1 : ((1 : Int) = 0) = False := by simp
  rcases of_idx l id with ⟨h1, h2⟩ | ⟨p, k, h1, h2, h3⟩
  · rw [h2] at r4
    rw [h1]
    have m4 : (-1 : Int) < 0 := by decide
    refine ⟨[], ?_⟩
    simp only [c52, o52_1, o52_2, o52_3, o52_4, o52_5, o52_6, o52_7, o52_8, o52_9, o52_10, o52_11, o52_12, o52_13, o52_14, o52_15, o52_16, o52_17, o52_18, o52_19, o52_20, o52_21, o52_22, o52_23, o52_24, o52_25, o52_26, o52_27, o52_28, o52_29, o52_30, o52_31, o52_32, o52_33, o52_34, o52_35, o52_36, go_sem, Nat.reduceAdd, Nat.reduceMul, reduceIte, Nat.reduceLeDiff, Int.reduceLE, Int.reduceLT, Int.reduceToNat, r1, r2, r4, t1, m4]
  rw [h2] at r4
  rw [h1]
  have m4 : ¬ (k : Int) < 0 := by omega
  have g2 : (0 : Int) ≤ (k : Int) := by omega
  have g3 : (l.map Pl.cells)[k]? = some p.cells := by rw [List.getElem?_map, h3]; rfl
  simp only [Pl.cells] at g3
  by_cases k5 : epoch ≤ p.epoch
  · refine ⟨[], ?_⟩
    simp only [c52, o52_1, o52_2, o52_3, o52_4, o52_5, o52_6, o52_7, o52_8, o52_9, o52_10, o52_11, o52_12, o52_13, o52_14, o52_15, o52_16, o52_17, o52_18, o52_19, o52_20, o52_21, o52_22, o52_23, o52_24, o52_25, o52_26, o52_27, o52_28, o52_29, o52_30, o52_31, o52_32, o52_33, o52_34, o52_35, o52_36, go_sem, Nat.reduceAdd, Nat.reduceMul, reduceIte, Nat.reduceLeDiff, Int.reduceLE, Int.reduceLT, Int.reduceToNat, mentL, ment, ment1, evGh, keepE, keepH, r1, r2, r4, t1, m4, g2, g3, k5]
  rcases of_idx l epoch with ⟨m1, m2⟩ | ⟨q, j, m1, m2, m3⟩
  rotate_left
  · rw [m2] at r3
    have m5 : (0 : Int) ≤ (j : Int) := by omega
    refine ⟨[], ?_⟩
    simp only [c52, o52_1, o52_2, o52_3, o52_4, o52_5, o52_6, o52_7, o52_8, o52_9, o52_10, o52_11, o52_12, o52_13, o52_14, o52_15, o52_16, o52_17, o52_18, o52_19, o52_20, o52_21, o52_22, o52_23, o52_24, o52_25, o52_26, o52_27, o52_28, o52_29, o52_30, o52_31, o52_32, o52_33, o52_34, o52_35, o52_36, go_sem, Nat.reduceAdd, Nat.reduceMul, reduceIte, Nat.reduceLeDiff, Int.reduceLE, Int.reduceLT, Int.reduceToNat, mentL, ment, ment1, evGh, keepE, keepH, r1, r2, r3, r4, t1, m4, g2, g3, k5, m1, m5, Option.isSome_some]
  rw [m2] at r3
  have m5 : ¬ ((0 : Int) ≤ -1) := by decide
  have hl8 : l.length ≤ 8 := by
    simp only [placesRight, Bool.and_eq_true, decide_eq_true_eq] at hr
    omega
  by_cases k6 : l.length = 8
  · refine ⟨[], ?_⟩
    have k7 : ((8 : Nat) : Int) > 7 := by decide
    simp only [c52, o52_1, o52_2, o52_3, o52_4, o52_5, o52_6, o52_7, o52_8, o52_9, o52_10, o52_11, o52_12, o52_13, o52_14, o52_15, o52_16, o52_17, o52_18, o52_19, o52_20, o52_21, o52_22, o52_23, o52_24, o52_25, o52_26, o52_27, o52_28, o52_29, o52_30, o52_31, o52_32, o52_33, o52_34, o52_35, o52_36, go_sem, Nat.reduceAdd, Nat.reduceMul, reduceIte, Nat.reduceLeDiff, Int.reduceLE, Int.reduceLT, Int.reduceToNat, mentL, ment, ment1, evGh, keepE, keepH, r1, r2, r3, r4, t1, m4, g2, g3, k5, m1, m5, k6, k7, List.length_map, Option.isSome_none, Bool.false_eq_true]
  have k7 : ¬ ((l.length : Int) > 7) := by omega
  have hps := hs p (List.mem_of_getElem? h3)
  have r5 := cut09_ok (N := n) p.lo p.hi key hps.1 hps.2 hk (by omega) (by omega)
  rcases cut_cases p.lo p.hi key with ⟨q1, q2⟩ | ⟨e, q0, q1, q2⟩
  rotate_left
  · rw [q1] at r5
    refine ⟨[], ?_⟩
    simp only [c52, o52_1, o52_2, o52_3, o52_4, o52_5, o52_6, o52_7, o52_8, o52_9, o52_10, o52_11, o52_12, o52_13, o52_14, o52_15, o52_16, o52_17, o52_18, o52_19, o52_20, o52_21, o52_22, o52_23, o52_24, o52_25, o52_26, o52_27, o52_28, o52_29, o52_30, o52_31, o52_32, o52_33, o52_34, o52_35, o52_36, go_sem, Nat.reduceAdd, Nat.reduceMul, reduceIte, Nat.reduceLeDiff, Int.reduceLE, Int.reduceLT, Int.reduceToNat, mentL, ment, ment1, evGh, keepE, keepH, r1, r2, r3, r4, r5, t1, m4, g2, g3, k5, m1, m5, k6, k7, q0, q2, List.length_map, Option.isSome_none, Bool.false_eq_true]
  rw [q1] at r5
  have r6 := turn_ok (N := n) l (by omega) id [⟨p.lo, key, p.shard, p.cell, epoch⟩, ⟨key, p.hi, epoch, p.cell, epoch⟩] (by simp) (by omega)
  simp only [List.map_cons, List.map_nil, Pl.cells] at r6
  generalize (l.flatMap (turnOne id [⟨p.lo, key, p.shard, p.cell, epoch⟩, ⟨key, p.hi, epoch, p.cell, epoch⟩])).map Pl.cells = R at r6
  refine ⟨R, ?_⟩
  cases R <;> simp only [c52, o52_1, o52_2, o52_3, o52_4, o52_5, o52_6, o52_7, o52_8, o52_9, o52_10, o52_11, o52_12, o52_13, o52_14, o52_15, o52_16, o52_17, o52_18, o52_19, o52_20, o52_21, o52_22, o52_23, o52_24, o52_25, o52_26, o52_27, o52_28, o52_29, o52_30, o52_31, o52_32, o52_33, o52_34, o52_35, o52_36, go_sem, Nat.reduceAdd, Nat.reduceMul, reduceIte, Nat.reduceLeDiff, Int.reduceLE, Int.reduceLT, Int.reduceToNat, mentL, ment, ment1, evGh, keepE, keepH, r1, r2, r3, r4, r5, r6, t1, m4, g2, g3, k5, m1, m5, k6, k7, q2, List.length_map, Option.isSome_none, Bool.false_eq_true]
set_option maxRecDepth 100000 in
set_option maxHeartbeats 1500000 in
theorem change2_ok {N B : Nat} (l : List Pl) (hB : B ≤ 1500000) (hl : l.length ≤ B) (hs : ∀ p ∈ l, p.small B) (hr : placesRight l = true) (id other epoch : Int) (key : List UInt8) (he : rng 1 1099511627776 epoch = true) (hN : 10 * B + 90 ≤ N) :
    ∃ R, run tab prim glob N 52 [.ro (l.map Pl.cells), .int .i64 2, .int .i64 id, .int .i64 other, .str key, .int .i64 epoch] = some (.tuple [.ro R, .int .i64 (joinedE l id other epoch)], []) := by
  obtain ⟨n, rfl⟩ : ∃ n, N = n + 1 := ⟨N - 1, by omega⟩
  rw [enters (fn := c52) rfl]
  have r1 := places15_ok (N := n) l (by omega) hl hs (by omega)
  have r2 := number15_ok (N := n) (by omega) epoch
  have r5 := number15_ok (N := n) (by omega) other
  have r4 := at15_ok (N := n) l (by omega) id (by omega)
  have r3 := at15_ok (N := n) l (by omega) other (by omega)
  unfold joinedE
  rw [hr] at r1
  rw [he] at r2
  have t1 : ((2 : Int) = 0) = False := by simp
  have t2 : ((2 : Int) = 1) = False := by simp
  cases k0 : rng 1 1099511627776 other
  · rw [k0] at r5
    refine ⟨[], ?_⟩
    simp only [c52, o52_1, o52_2, o52_3, o52_4, o52_5, o52_6, o52_7, o52_8, o52_9, o52_10, o52_11, o52_12, o52_13, o52_14, o52_15, o52_16, o52_17, o52_18, o52_19, o52_20, o52_21, o52_22, o52_23, o52_24, o52_25, o52_26, o52_27, o52_28, o52_29, o52_30, o52_31, o52_32, o52_33, o52_34, o52_35, o52_36, go_sem, Nat.reduceAdd, Nat.reduceMul, reduceIte, Nat.reduceLeDiff, Int.reduceLE, Int.reduceLT, Int.reduceToNat, r1, r2, r5, t1, Bool.false_eq_true]
  rw [k0] at r5
  rcases of_idx l id with ⟨h1, h2⟩ | ⟨p, k, h1, h2, h3⟩
  · rw [h2] at r4
    rw [h1]
    have m4 : (-1 : Int) < 0 := by decide
    refine ⟨[], ?_⟩
    simp only [c52, o52_1, o52_2, o52_3, o52_4, o52_5, o52_6, o52_7, o52_8, o52_9, o52_10, o52_11, o52_12, o52_13, o52_14, o52_15, o52_16, o52_17, o52_18, o52_19, o52_20, o52_21, o52_22, o52_23, o52_24, o52_25, o52_26, o52_27, o52_28, o52_29, o52_30, o52_31, o52_32, o52_33, o52_34, o52_35, o52_36, go_sem, Nat.reduceAdd, Nat.reduceMul, reduceIte, Nat.reduceLeDiff, Int.reduceLE, Int.reduceLT, Int.reduceToNat, r1, r2, r4, r5, t1, m4]
  rw [h2] at r4
  rw [h1]
  have m4 : ¬ (k : Int) < 0 := by omega
  have g2 : (0 : Int) ≤ (k : Int) := by omega
  have g3 : (l.map Pl.cells)[k]? = some p.cells := by rw [List.getElem?_map, h3]; rfl
  simp only [Pl.cells] at g3
  by_cases k5 : epoch ≤ p.epoch
  · refine ⟨[], ?_⟩
    simp only [c52, o52_1, o52_2, o52_3, o52_4, o52_5, o52_6, o52_7, o52_8, o52_9, o52_10, o52_11, o52_12, o52_13, o52_14, o52_15, o52_16, o52_17, o52_18, o52_19, o52_20, o52_21, o52_22, o52_23, o52_24, o52_25, o52_26, o52_27, o52_28, o52_29, o52_30, o52_31, o52_32, o52_33, o52_34, o52_35, o52_36, go_sem, Nat.reduceAdd, Nat.reduceMul, reduceIte, Nat.reduceLeDiff, Int.reduceLE, Int.reduceLT, Int.reduceToNat, mentL, ment, ment1, evGh, keepE, keepH, r1, r2, r4, r5, t1, m4, g2, g3, k5]
  rcases of_idx l other with ⟨m1, m2⟩ | ⟨q, j, m1, m2, m3⟩
  · rw [m2] at r3
    have m5 : (-1 : Int) < 0 := by decide
    refine ⟨[], ?_⟩
    simp only [c52, o52_1, o52_2, o52_3, o52_4, o52_5, o52_6, o52_7, o52_8, o52_9, o52_10, o52_11, o52_12, o52_13, o52_14, o52_15, o52_16, o52_17, o52_18, o52_19, o52_20, o52_21, o52_22, o52_23, o52_24, o52_25, o52_26, o52_27, o52_28, o52_29, o52_30, o52_31, o52_32, o52_33, o52_34, o52_35, o52_36, go_sem, Nat.reduceAdd, Nat.reduceMul, reduceIte, Nat.reduceLeDiff, Int.reduceLE, Int.reduceLT, Int.reduceToNat, mentL, ment, ment1, evGh, keepE, keepH, r1, r2, r3, r4, r5, t1, t2, m4, g2, g3, k5, m1, m5]
  rw [m2] at r3
  have m5 : ¬ (j : Int) < 0 := by omega
  have n2 : (0 : Int) ≤ (j : Int) := by omega
  have n3 : (l.map Pl.cells)[j]? = some q.cells := by rw [List.getElem?_map, m3]; rfl
  simp only [Pl.cells] at n3
  have hps := hs p (List.mem_of_getElem? h3)
  have hqs := hs q (List.mem_of_getElem? m3)
  have r6 := join_ok (N := n) p.lo p.hi q.lo q.hi hps.1 hps.2 hqs.1 hqs.2 (by omega) (by omega)
  have s1 := span_of hr h3
  have s2 := span_of hr m3
  unfold joinPV at r6
  rw [s1, s2] at r6
  rw [m1]
  simp only [if_true, k5, if_false]
  by_cases d1 : p.hi ≠ [] ∧ p.hi = q.lo
  rotate_left
  · have d2 : (!decide (p.hi = []) && decide (p.hi = q.lo)) = false := by simpa using d1
    rw [d2] at r6
    refine ⟨[], ?_⟩
    simp only [c52, o52_1, o52_2, o52_3, o52_4, o52_5, o52_6, o52_7, o52_8, o52_9, o52_10, o52_11, o52_12, o52_13, o52_14, o52_15, o52_16, o52_17, o52_18, o52_19, o52_20, o52_21, o52_22, o52_23, o52_24, o52_25, o52_26, o52_27, o52_28, o52_29, o52_30, o52_31, o52_32, o52_33, o52_34, o52_35, o52_36, go_sem, Nat.reduceAdd, Nat.reduceMul, reduceIte, Nat.reduceLeDiff, Int.reduceLE, Int.reduceLT, Int.reduceToNat, mentL, ment, ment1, evGh, keepE, keepH, r1, r2, r3, r4, r5, r6, t1, t2, m4, m5, g2, g3, n2, n3, k5, d1, false_and, if_false, Bool.and_self, Bool.false_eq_true]
  have d2 : (!decide (p.hi = []) && decide (p.hi = q.lo)) = true := by simpa using d1
  rw [d2] at r6
  by_cases d3 : p.cell = q.cell
  rotate_left
  · refine ⟨[], ?_⟩
    simp only [c52, o52_1, o52_2, o52_3, o52_4, o52_5, o52_6, o52_7, o52_8, o52_9, o52_10, o52_11, o52_12, o52_13, o52_14, o52_15, o52_16, o52_17, o52_18, o52_19, o52_20, o52_21, o52_22, o52_23, o52_24, o52_25, o52_26, o52_27, o52_28, o52_29, o52_30, o52_31, o52_32, o52_33, o52_34, o52_35, o52_36, go_sem, Nat.reduceAdd, Nat.reduceMul, reduceIte, Nat.reduceLeDiff, Int.reduceLE, Int.reduceLT, Int.reduceToNat, mentL, ment, ment1, evGh, keepE, keepH, r1, r2, r3, r4, r5, r6, t1, t2, m4, m5, g2, g3, n2, n3, k5, d3, false_and, and_false, if_false, Bool.and_self, Bool.false_eq_true]
  by_cases d4 : epoch ≤ q.epoch
  · refine ⟨[], ?_⟩
    simp only [c52, o52_1, o52_2, o52_3, o52_4, o52_5, o52_6, o52_7, o52_8, o52_9, o52_10, o52_11, o52_12, o52_13, o52_14, o52_15, o52_16, o52_17, o52_18, o52_19, o52_20, o52_21, o52_22, o52_23, o52_24, o52_25, o52_26, o52_27, o52_28, o52_29, o52_30, o52_31, o52_32, o52_33, o52_34, o52_35, o52_36, go_sem, Nat.reduceAdd, Nat.reduceMul, reduceIte, Nat.reduceLeDiff, Int.reduceLE, Int.reduceLT, Int.reduceToNat, mentL, ment, ment1, evGh, keepE, keepH, r1, r2, r3, r4, r5, r6, t1, t2, m4, m5, g2, g3, n2, n3, k5, d3, d4, not_true, false_and, and_false, if_false, Bool.and_self, Bool.false_eq_true]
  have r7 := turn_ok (N := n) l (by omega) other [] (by simp) (by omega)
  have hlen := turn_len l other
  have r8 := turn_ok (N := n) (l.flatMap (turnOne other [])) (by omega) id [⟨p.lo, q.hi, p.shard, p.cell, epoch⟩] (by simp) (by omega)
  simp only [List.map_cons, List.map_nil, Pl.cells] at r7 r8
  generalize (l.flatMap (turnOne other [])).map Pl.cells = R1 at r7 r8
  generalize ((l.flatMap (turnOne other [])).flatMap (turnOne id [⟨p.lo, q.hi, p.shard, p.cell, epoch⟩])).map Pl.cells = R2 at r8
  refine ⟨R2, ?_⟩
  rw [if_pos ⟨d1, d3, d4⟩]
  have d3' := eq_true d3
  cases R1 <;> cases R2 <;> simp only [c52, o52_1, o52_2, o52_3, o52_4, o52_5, o52_6, o52_7, o52_8, o52_9, o52_10, o52_11, o52_12, o52_13, o52_14, o52_15, o52_16, o52_17, o52_18, o52_19, o52_20, o52_21, o52_22, o52_23, o52_24, o52_25, o52_26, o52_27, o52_28, o52_29, o52_30, o52_31, o52_32, o52_33, o52_34, o52_35, o52_36, go_sem, Nat.reduceAdd, Nat.reduceMul, reduceIte, Nat.reduceLeDiff, Int.reduceLE, Int.reduceLT, Int.reduceToNat, mentL, ment, ment1, evGh, keepE, keepH, r1, r2, r3, r4, r5, r6, r7, r8, t1, t2, m4, m5, g2, g3, n2, n3, k5, d3', d4, if_true, Bool.and_self, Bool.false_eq_true]
end Go.Proofs.YtefoleocbhkobaaGreatDoor
namespace Go.Proofs.YtefoleocbhkobaaGreatDoor
open Go Go.Ev
set_option linter.unusedSectionVars false
set_option linter.unusedSimpArgs false
set_option linter.unusedVariables false
structure Cm where
  kind : Int
  shard : Int
  other : Int
  to : Int
  key : List UInt8
  members : List Int
def Cm.cells (c : Cm) : List PV := [.int .i64 c.kind, .int .i64 c.shard, .int .i64 c.other, .int .i64 c.to, .str c.key, .ro (c.members.map rowI)]
def Dr.stepped (d : Dr) (n : Int) : Dr := { d with job := { d.job with step := n } }
@[go_sem] theorem spl_step (d : Dr) (n : Int) : splice d.cellsL 9 [.int .i64 n] = (d.stepped n).cellsL := rfl
def Dr.given (d : Dr) (j : Jb) : Dr := { d with job := j, next := d.next + 1 }
def Both (N : Nat) (d : Dr) (c : Cm) (x : Dr) (e : Int) : Prop :=
  run tab prim glob N 14 [.agg d.cellsL, .agg c.cells] = some (.tuple [.agg x.cellsL, .int .i64 e], []) ∧ run tab prim glob N 16 [.agg d.cellsL, .agg c.cells] = some (.tuple [.agg x.cellsL, .int .i64 e], [])
set_option maxRecDepth 100000 in
set_option maxHeartbeats 4000000 in
theorem cmd_none {N B : Nat} (d : Dr) (hf : d.Fine) (hB : B ≤ 1500000) (hd : d.small B) (c : Cm) (hk : c.kind < 1 ∨ c.kind > 6 ∨ c.kind = 4) (hN : 10 * B + 200 ≤ N) : Both N d c d 1 := by
  obtain ⟨n, rfl⟩ : ∃ n, N = n + 1 := ⟨N - 1, by omega⟩
  have r1 := dir_ok (N := n) d (by omega) hd (by omega)
  rw [(d.fine_iff).2 hf] at r1
  unfold Both
  rw [enters (fn := c14) rfl, enters (fn := c16) rfl]
  by_cases k1 : c.kind < 1
  · exact ⟨by simp only [c14, o14_1, o14_2, o14_3, o14_4, o14_5, o14_6, o14_7, o14_8, o14_9, o14_10, o14_11, o14_12, o14_13, o14_14, o14_15, o14_16, o14_17, o14_18, o14_19, o14_20, o14_21, o14_22, o14_23, o14_24, o14_25, o14_26, o14_27, o14_28, o14_29, o14_30, o14_31, o14_32, o14_33, o14_34, o14_35, o14_36, o14_37, go_sem, Nat.reduceAdd, Nat.reduceMul, reduceIte, Nat.reduceLeDiff, Int.reduceLE, Int.reduceLT, Int.reduceToNat, Cm.cells, r1, k1], by simp only [c16, o16_1, o16_2, o16_3, o16_4, o16_5, o16_6, o16_7, o16_8, o16_9, o16_10, o16_11, o16_12, o16_13, o16_14, o16_15, o16_16, o16_17, o16_18, o16_19, o16_20, o16_21, o16_22, o16_23, o16_24, o16_25, o16_26, o16_27, o16_28, o16_29, o16_30, o16_31, go_sem, Nat.reduceAdd, Nat.reduceMul, reduceIte, Nat.reduceLeDiff, Int.reduceLE, Int.reduceLT, Int.reduceToNat, Cm.cells, k1]⟩
  by_cases k2 : c.kind > 6
  · exact ⟨by simp only [c14, o14_1, o14_2, o14_3, o14_4, o14_5, o14_6, o14_7, o14_8, o14_9, o14_10, o14_11, o14_12, o14_13, o14_14, o14_15, o14_16, o14_17, o14_18, o14_19, o14_20, o14_21, o14_22, o14_23, o14_24, o14_25, o14_26, o14_27, o14_28, o14_29, o14_30, o14_31, o14_32, o14_33, o14_34, o14_35, o14_36, o14_37, go_sem, Nat.reduceAdd, Nat.reduceMul, reduceIte, Nat.reduceLeDiff, Int.reduceLE, Int.reduceLT, Int.reduceToNat, Cm.cells, r1, k1, k2], by simp only [c16, o16_1, o16_2, o16_3, o16_4, o16_5, o16_6, o16_7, o16_8, o16_9, o16_10, o16_11, o16_12, o16_13, o16_14, o16_15, o16_16, o16_17, o16_18, o16_19, o16_20, o16_21, o16_22, o16_23, o16_24, o16_25, o16_26, o16_27, o16_28, o16_29, o16_30, o16_31, go_sem, Nat.reduceAdd, Nat.reduceMul, reduceIte, Nat.reduceLeDiff, Int.reduceLE, Int.reduceLT, Int.reduceToNat, Cm.cells, k1, k2]⟩
  have k3 : (c.kind = 4) = True := eq_true (by omega)
  exact ⟨by simp only [c14, o14_1, o14_2, o14_3, o14_4, o14_5, o14_6, o14_7, o14_8, o14_9, o14_10, o14_11, o14_12, o14_13, o14_14, o14_15, o14_16, o14_17, o14_18, o14_19, o14_20, o14_21, o14_22, o14_23, o14_24, o14_25, o14_26, o14_27, o14_28, o14_29, o14_30, o14_31, o14_32, o14_33, o14_34, o14_35, o14_36, o14_37, go_sem, Nat.reduceAdd, Nat.reduceMul, reduceIte, Nat.reduceLeDiff, Int.reduceLE, Int.reduceLT, Int.reduceToNat, Cm.cells, r1, k1, k2, k3], by simp only [c16, o16_1, o16_2, o16_3, o16_4, o16_5, o16_6, o16_7, o16_8, o16_9, o16_10, o16_11, o16_12, o16_13, o16_14, o16_15, o16_16, o16_17, o16_18, o16_19, o16_20, o16_21, o16_22, o16_23, o16_24, o16_25, o16_26, o16_27, o16_28, o16_29, o16_30, o16_31, go_sem, Nat.reduceAdd, Nat.reduceMul, reduceIte, Nat.reduceLeDiff, Int.reduceLE, Int.reduceLT, Int.reduceToNat, Cm.cells, k1, k2, k3]⟩
theorem abort_ok {N : Nat} (d : Dr) (hN : 1 ≤ N) : run tab prim glob N 41 [.agg d.cellsL] = some (if d.job.kind = 1 ∧ d.job.step ≤ 3 then .tuple [.agg (d.stepped 6).cellsL, .int .i64 0] else if (d.job.kind = 2 ∨ d.job.kind = 3) ∧ d.job.step = 1 then .tuple [.agg (d.stepped 7).cellsL, .int .i64 0] else .tuple [.agg d.cellsL, .int .i64 7], []) := by
  obtain ⟨n, rfl⟩ : ∃ n, N = n + 1 := ⟨N - 1, by omega⟩
  rw [enters (fn := c41) rfl]
  by_cases k1 : d.job.kind = 1
  · have n1 : ((1 : Int) = 2) = False := by simp
    have n2 : ((1 : Int) = 3) = False := by simp
    by_cases k2 : d.job.step ≤ 3
    · simp only [c41, o41_1, o41_2, o41_3, o41_4, o41_5, o41_6, o41_7, o41_8, go_sem, Nat.reduceAdd, Nat.reduceMul, reduceIte, Nat.reduceLeDiff, Int.reduceLE, Int.reduceLT, Int.reduceToNat, k1, k2, and_self, if_true]
    · simp only [c41, o41_1, o41_2, o41_3, o41_4, o41_5, o41_6, o41_7, o41_8, go_sem, Nat.reduceAdd, Nat.reduceMul, reduceIte, Nat.reduceLeDiff, Int.reduceLE, Int.reduceLT, Int.reduceToNat, k1, k2, n1, n2, and_false, false_and, or_false, if_false]
  · by_cases k2 : d.job.kind = 2
    · by_cases k3 : d.job.step = 1
      · have n1 : ((2 : Int) = 1) = False := by simp
        simp only [c41, o41_1, o41_2, o41_3, o41_4, o41_5, o41_6, o41_7, o41_8, go_sem, Nat.reduceAdd, Nat.reduceMul, reduceIte, Nat.reduceLeDiff, Int.reduceLE, Int.reduceLT, Int.reduceToNat, k2, k3, n1, false_and, true_or, and_self, if_false, if_true]
      · have n1 : ((2 : Int) = 1) = False := by simp
        simp only [c41, o41_1, o41_2, o41_3, o41_4, o41_5, o41_6, o41_7, o41_8, go_sem, Nat.reduceAdd, Nat.reduceMul, reduceIte, Nat.reduceLeDiff, Int.reduceLE, Int.reduceLT, Int.reduceToNat, k2, k3, n1, and_false, false_and, if_false]
    · by_cases k4 : d.job.kind = 3
      · have n1 : ((3 : Int) = 1) = False := by simp
        have n2 : ((3 : Int) = 2) = False := by simp
        by_cases k3 : d.job.step = 1
        · simp only [c41, o41_1, o41_2, o41_3, o41_4, o41_5, o41_6, o41_7, o41_8, go_sem, Nat.reduceAdd, Nat.reduceMul, reduceIte, Nat.reduceLeDiff, Int.reduceLE, Int.reduceLT, Int.reduceToNat, k4, k3, n1, n2, false_and, or_true, and_self, if_false, if_true]
        · simp only [c41, o41_1, o41_2, o41_3, o41_4, o41_5, o41_6, o41_7, o41_8, go_sem, Nat.reduceAdd, Nat.reduceMul, reduceIte, Nat.reduceLeDiff, Int.reduceLE, Int.reduceLT, Int.reduceToNat, k4, k3, n1, n2, and_false, false_and, if_false]
      · simp only [c41, o41_1, o41_2, o41_3, o41_4, o41_5, o41_6, o41_7, o41_8, go_sem, Nat.reduceAdd, Nat.reduceMul, reduceIte, Nat.reduceLeDiff, Int.reduceLE, Int.reduceLT, Int.reduceToNat, k1, k2, k4, false_and, or_false, if_false]
end Go.Proofs.YtefoleocbhkobaaGreatDoor
namespace Go.Proofs.YtefoleocbhkobaaGreatDoor
open Go Go.Ev
set_option linter.unusedSectionVars false
set_option linter.unusedSimpArgs false
set_option linter.unusedVariables false
set_option maxRecDepth 100000 in
set_option maxHeartbeats 4000000 in
theorem cmd_abort {N B : Nat} (d : Dr) (hf : d.Fine) (hB : B ≤ 1500000) (hd : d.small B) (c : Cm) (hk : c.kind = 6) (hN : 10 * B + 200 ≤ N) : ∃ n e, Both N d c (d.stepped n) e := by
  obtain ⟨n, rfl⟩ : ∃ n, N = n + 1 := ⟨N - 1, by omega⟩
  have r1 := dir_ok (N := n) d (by omega) hd (by omega)
  rw [(d.fine_iff).2 hf] at r1
  have r2 := abort_ok (N := n) d (by omega)
  have hid : d.stepped d.job.step = d := rfl
  unfold Both
  rw [enters (fn := c14) rfl, enters (fn := c16) rfl]
  by_cases k1 : d.job.kind = 1
  · by_cases k2 : d.job.step ≤ 3
    · rw [if_pos ⟨k1, k2⟩] at r2
      have k3 : (d.job.step < 4) = True := eq_true (by omega)
      exact ⟨6, 0, by simp only [c14, o14_1, o14_2, o14_3, o14_4, o14_5, o14_6, o14_7, o14_8, o14_9, o14_10, o14_11, o14_12, o14_13, o14_14, o14_15, o14_16, o14_17, o14_18, o14_19, o14_20, o14_21, o14_22, o14_23, o14_24, o14_25, o14_26, o14_27, o14_28, o14_29, o14_30, o14_31, o14_32, o14_33, o14_34, o14_35, o14_36, o14_37, go_sem, Nat.reduceAdd, Nat.reduceMul, reduceIte, Nat.reduceLeDiff, Int.reduceLE, Int.reduceLT, Int.reduceToNat, Cm.cells, r1, r2, hk, Int.reduceEq], by simp only [c16, o16_1, o16_2, o16_3, o16_4, o16_5, o16_6, o16_7, o16_8, o16_9, o16_10, o16_11, o16_12, o16_13, o16_14, o16_15, o16_16, o16_17, o16_18, o16_19, o16_20, o16_21, o16_22, o16_23, o16_24, o16_25, o16_26, o16_27, o16_28, o16_29, o16_30, o16_31, go_sem, Nat.reduceAdd, Nat.reduceMul, reduceIte, Nat.reduceLeDiff, Int.reduceLE, Int.reduceLT, Int.reduceToNat, Cm.cells, hk, k1, k3, Int.reduceEq]⟩
    · rw [if_neg (by omega), if_neg (by omega)] at r2
      have k3 : ¬ (d.job.step < 4) := by omega
      exact ⟨d.job.step, 7, by rw [hid]; simp only [c14, o14_1, o14_2, o14_3, o14_4, o14_5, o14_6, o14_7, o14_8, o14_9, o14_10, o14_11, o14_12, o14_13, o14_14, o14_15, o14_16, o14_17, o14_18, o14_19, o14_20, o14_21, o14_22, o14_23, o14_24, o14_25, o14_26, o14_27, o14_28, o14_29, o14_30, o14_31, o14_32, o14_33, o14_34, o14_35, o14_36, o14_37, go_sem, Nat.reduceAdd, Nat.reduceMul, reduceIte, Nat.reduceLeDiff, Int.reduceLE, Int.reduceLT, Int.reduceToNat, Cm.cells, r1, r2, hk, Int.reduceEq], by rw [hid]; simp only [c16, o16_1, o16_2, o16_3, o16_4, o16_5, o16_6, o16_7, o16_8, o16_9, o16_10, o16_11, o16_12, o16_13, o16_14, o16_15, o16_16, o16_17, o16_18, o16_19, o16_20, o16_21, o16_22, o16_23, o16_24, o16_25, o16_26, o16_27, o16_28, o16_29, o16_30, o16_31, go_sem, Nat.reduceAdd, Nat.reduceMul, reduceIte, Nat.reduceLeDiff, Int.reduceLE, Int.reduceLT, Int.reduceToNat, Cm.cells, hk, k1, k3, Int.reduceEq]⟩
  · by_cases k4 : (d.job.kind = 2 ∨ d.job.kind = 3) ∧ d.job.step = 1
    · rw [if_neg (by omega), if_pos k4] at r2
      refine ⟨7, 0, by simp only [c14, o14_1, o14_2, o14_3, o14_4, o14_5, o14_6, o14_7, o14_8, o14_9, o14_10, o14_11, o14_12, o14_13, o14_14, o14_15, o14_16, o14_17, o14_18, o14_19, o14_20, o14_21, o14_22, o14_23, o14_24, o14_25, o14_26, o14_27, o14_28, o14_29, o14_30, o14_31, o14_32, o14_33, o14_34, o14_35, o14_36, o14_37, go_sem, Nat.reduceAdd, Nat.reduceMul, reduceIte, Nat.reduceLeDiff, Int.reduceLE, Int.reduceLT, Int.reduceToNat, Cm.cells, r1, r2, hk, Int.reduceEq], ?_⟩
      obtain ⟨k5 | k5, k6⟩ := k4
      · simp only [c16, o16_1, o16_2, o16_3, o16_4, o16_5, o16_6, o16_7, o16_8, o16_9, o16_10, o16_11, o16_12, o16_13, o16_14, o16_15, o16_16, o16_17, o16_18, o16_19, o16_20, o16_21, o16_22, o16_23, o16_24, o16_25, o16_26, o16_27, o16_28, o16_29, o16_30, o16_31, go_sem, Nat.reduceAdd, Nat.reduceMul, reduceIte, Nat.reduceLeDiff, Int.reduceLE, Int.reduceLT, Int.reduceToNat, Cm.cells, hk, k5, k6, Int.reduceEq]
      · simp only [c16, o16_1, o16_2, o16_3, o16_4, o16_5, o16_6, o16_7, o16_8, o16_9, o16_10, o16_11, o16_12, o16_13, o16_14, o16_15, o16_16, o16_17, o16_18, o16_19, o16_20, o16_21, o16_22, o16_23, o16_24, o16_25, o16_26, o16_27, o16_28, o16_29, o16_30, o16_31, go_sem, Nat.reduceAdd, Nat.reduceMul, reduceIte, Nat.reduceLeDiff, Int.reduceLE, Int.reduceLT, Int.reduceToNat, Cm.cells, hk, k5, k6, Int.reduceEq]
    · rw [if_neg (by omega), if_neg k4] at r2
      refine ⟨d.job.step, 7, by rw [hid]; simp only [c14, o14_1, o14_2, o14_3, o14_4, o14_5, o14_6, o14_7, o14_8, o14_9, o14_10, o14_11, o14_12, o14_13, o14_14, o14_15, o14_16, o14_17, o14_18, o14_19, o14_20, o14_21, o14_22, o14_23, o14_24, o14_25, o14_26, o14_27, o14_28, o14_29, o14_30, o14_31, o14_32, o14_33, o14_34, o14_35, o14_36, o14_37, go_sem, Nat.reduceAdd, Nat.reduceMul, reduceIte, Nat.reduceLeDiff, Int.reduceLE, Int.reduceLT, Int.reduceToNat, Cm.cells, r1, r2, hk, Int.reduceEq], ?_⟩
      rw [hid]
      by_cases k5 : d.job.kind = 2
      · have k6 : ¬ d.job.step = 1 := by omega
        simp only [c16, o16_1, o16_2, o16_3, o16_4, o16_5, o16_6, o16_7, o16_8, o16_9, o16_10, o16_11, o16_12, o16_13, o16_14, o16_15, o16_16, o16_17, o16_18, o16_19, o16_20, o16_21, o16_22, o16_23, o16_24, o16_25, o16_26, o16_27, o16_28, o16_29, o16_30, o16_31, go_sem, Nat.reduceAdd, Nat.reduceMul, reduceIte, Nat.reduceLeDiff, Int.reduceLE, Int.reduceLT, Int.reduceToNat, Cm.cells, hk, k5, k6, Int.reduceEq]
      · by_cases k7 : d.job.kind = 3
        · have k6 : ¬ d.job.step = 1 := by omega
          simp only [c16, o16_1, o16_2, o16_3, o16_4, o16_5, o16_6, o16_7, o16_8, o16_9, o16_10, o16_11, o16_12, o16_13, o16_14, o16_15, o16_16, o16_17, o16_18, o16_19, o16_20, o16_21, o16_22, o16_23, o16_24, o16_25, o16_26, o16_27, o16_28, o16_29, o16_30, o16_31, go_sem, Nat.reduceAdd, Nat.reduceMul, reduceIte, Nat.reduceLeDiff, Int.reduceLE, Int.reduceLT, Int.reduceToNat, Cm.cells, hk, k7, k6, Int.reduceEq]
        · simp only [c16, o16_1, o16_2, o16_3, o16_4, o16_5, o16_6, o16_7, o16_8, o16_9, o16_10, o16_11, o16_12, o16_13, o16_14, o16_15, o16_16, o16_17, o16_18, o16_19, o16_20, o16_21, o16_22, o16_23, o16_24, o16_25, o16_26, o16_27, o16_28, o16_29, o16_30, o16_31, go_sem, Nat.reduceAdd, Nat.reduceMul, reduceIte, Nat.reduceLeDiff, Int.reduceLE, Int.reduceLT, Int.reduceToNat, Cm.cells, hk, k1, k5, k7, Int.reduceEq]
set_option maxRecDepth 100000 in
set_option maxHeartbeats 4000000 in
theorem cmd_busy {N B : Nat} (d : Dr) (hf : d.Fine) (hB : B ≤ 1500000) (hd : d.small B) (c : Cm) (h1 : ¬ c.kind < 1) (h2 : ¬ c.kind > 6) (h3 : ¬ c.kind = 4) (h4 : ¬ c.kind = 6) (hk : ¬ d.job.kind = 0) (hN : 10 * B + 200 ≤ N) : Both N d c d 11 := by
  obtain ⟨n, rfl⟩ : ∃ n, N = n + 1 := ⟨N - 1, by omega⟩
  have r1 := dir_ok (N := n) d (by omega) hd (by omega)
  rw [(d.fine_iff).2 hf] at r1
  unfold Both
  rw [enters (fn := c14) rfl, enters (fn := c16) rfl]
  have hj := (job_fine hf.job).kind.1
  have k1 : (d.job.kind > 0) = True := eq_true (by omega)
  have k2 : (0 < d.job.kind) = True := k1
  exact ⟨by simp only [c14, o14_1, o14_2, o14_3, o14_4, o14_5, o14_6, o14_7, o14_8, o14_9, o14_10, o14_11, o14_12, o14_13, o14_14, o14_15, o14_16, o14_17, o14_18, o14_19, o14_20, o14_21, o14_22, o14_23, o14_24, o14_25, o14_26, o14_27, o14_28, o14_29, o14_30, o14_31, o14_32, o14_33, o14_34, o14_35, o14_36, o14_37, go_sem, Nat.reduceAdd, Nat.reduceMul, reduceIte, Nat.reduceLeDiff, Int.reduceLE, Int.reduceLT, Int.reduceToNat, Cm.cells, r1, h1, h2, h3, h4, hk, Int.reduceEq], by simp only [c16, o16_1, o16_2, o16_3, o16_4, o16_5, o16_6, o16_7, o16_8, o16_9, o16_10, o16_11, o16_12, o16_13, o16_14, o16_15, o16_16, o16_17, o16_18, o16_19, o16_20, o16_21, o16_22, o16_23, o16_24, o16_25, o16_26, o16_27, o16_28, o16_29, o16_30, o16_31, go_sem, Nat.reduceAdd, Nat.reduceMul, reduceIte, Nat.reduceLeDiff, Int.reduceLE, Int.reduceLT, Int.reduceToNat, Cm.cells, h1, h2, h3, h4, k2, Int.reduceEq]⟩
set_option maxRecDepth 100000 in
set_option maxHeartbeats 4000000 in
theorem cmd_full {N B : Nat} (d : Dr) (hf : d.Fine) (hB : B ≤ 1500000) (hd : d.small B) (c : Cm) (h1 : ¬ c.kind < 1) (h2 : ¬ c.kind > 6) (h3 : ¬ c.kind = 4) (h4 : ¬ c.kind = 6) (hk : d.job.kind = 0) (hn : d.next = 1099511627776) (hN : 10 * B + 200 ≤ N) : Both N d c d 6 := by
  obtain ⟨n, rfl⟩ : ∃ n, N = n + 1 := ⟨N - 1, by omega⟩
  have r1 := dir_ok (N := n) d (by omega) hd (by omega)
  rw [(d.fine_iff).2 hf] at r1
  unfold Both
  rw [enters (fn := c14) rfl, enters (fn := c16) rfl]
  have k1 : ((0 : Int) < 0) = False := by simp
  exact ⟨by simp only [c14, o14_1, o14_2, o14_3, o14_4, o14_5, o14_6, o14_7, o14_8, o14_9, o14_10, o14_11, o14_12, o14_13, o14_14, o14_15, o14_16, o14_17, o14_18, o14_19, o14_20, o14_21, o14_22, o14_23, o14_24, o14_25, o14_26, o14_27, o14_28, o14_29, o14_30, o14_31, o14_32, o14_33, o14_34, o14_35, o14_36, o14_37, go_sem, Nat.reduceAdd, Nat.reduceMul, reduceIte, Nat.reduceLeDiff, Int.reduceLE, Int.reduceLT, Int.reduceToNat, Cm.cells, r1, h1, h2, h3, h4, hk, hn, Int.reduceEq], by simp only [c16, o16_1, o16_2, o16_3, o16_4, o16_5, o16_6, o16_7, o16_8, o16_9, o16_10, o16_11, o16_12, o16_13, o16_14, o16_15, o16_16, o16_17, o16_18, o16_19, o16_20, o16_21, o16_22, o16_23, o16_24, o16_25, o16_26, o16_27, o16_28, o16_29, o16_30, o16_31, go_sem, Nat.reduceAdd, Nat.reduceMul, reduceIte, Nat.reduceLeDiff, Int.reduceLE, Int.reduceLT, Int.reduceToNat, Cm.cells, h1, h2, h3, h4, hk, hn, k1, Int.reduceEq, Int.le_refl]⟩
end Go.Proofs.YtefoleocbhkobaaGreatDoor
namespace Go.Proofs.YtefoleocbhkobaaGreatDoor
open Go Go.Ev
set_option linter.unusedSectionVars false
set_option linter.unusedSimpArgs false
set_option linter.unusedVariables false
def Dr.withJob (d : Dr) (j : Jb) : Dr := { d with job := j }
def Dr.withNext (d : Dr) (n : Int) : Dr := { d with next := n }
@[go_sem] theorem spl_next (d : Dr) (n : Int) : splice d.cellsL 2 [.int .i64 n] = (d.withNext n).cellsL := rfl
@[go_sem] theorem next_job (d : Dr) (j : Jb) : (d.withJob j).next = d.next := rfl
@[go_sem] theorem jr_drop (j : Jb) : j.cells.drop 20 = [] := rfl
def jobZ (k n : Int) : List PV := [.int .i64 k, .int .i64 1, .int .i64 n, .int .i64 0, .int .i64 0, .int .i64 0, .int .i64 0, .int .i64 0, .str [], .nul, .int .i64 0, .int .i64 0, .int .i64 0, .str [], .str [], .nul, .int .i64 0, .int .i64 0, .int .i64 0, .nul]
set_option maxHeartbeats 4000000 in
theorem loop16 {n : Nat} (d : Dr) (c : Cm) (m0 : Int) (mr : List Int) (hm0 : c.members = m0 :: mr) (mem : List Int) (hl : mem.length ≤ 1500000) (view : Int) (whole : Bool) (nx : Int) : ∀ (rest pre : List Int) (b : Bool) (m : Nat) (env : Env) (H : Heap), mem = pre ++ rest → rest.length + 1 ≤ m →
    evGh (.keep [2, 3, 4, 6, 7, 8, 9, 10] [100002, 100003, 100004, 100006, 100008]) env H = some ([(2, .ptr 100002 0), (3, .ptr 100003 0), (4, .ptr 100004 0), (6, .ptr 100006 0), (7, .int .i64 nx), (8, .ptr 100008 0), (9, .bool b), (10, .int .i64 pre.length)],
      [(100002, .box d.cellsL), (100003, .box c.cells), (100004, .box refZ), (100006, .box (jobZ 5 nx)), (100008, .box [.int .i64 view, .ro (mem.map rowI), .bool whole])]) →
    Ends (iter m (evCode ⟨run tab prim glob n, glob⟩ (iter n) b16_1) env H) (fun ex e h => ex = .exit 0 ∧ getT e 2 = .ptr 100002 0 ∧ getT e 3 = .ptr 100003 0 ∧ getT e 4 = .ptr 100004 0 ∧ getT e 6 = .ptr 100006 0 ∧ getT e 7 = .int .i64 nx ∧ getT e 9 = .bool (b || rest.any fun x => decide (m0 = x)) ∧
      h = [(100002, .box d.cellsL), (100003, .box c.cells), (100004, .box refZ), (100006, .box (jobZ 5 nx)), (100008, .box [.int .i64 view, .ro (mem.map rowI), .bool whole])])
  | [], pre, b, m + 1, env, H, hp, hm, hk => by
    have e0 : pre.length = mem.length := by rw [hp]; simp
    rw [iter_step]
    generalize iter m (evCode ⟨run tab prim glob n, glob⟩ (iter n) b16_1) = g
    simp only [b16_1, ob16_1_1, ob16_1_2, ob16_1_3, hk, go_sem, Nat.reduceAdd, Nat.reduceMul, reduceIte, Nat.reduceLeDiff, Int.reduceLE, Int.reduceLT, Int.reduceToNat, e0, Int.lt_irrefl, afterIt, List.any_nil, Bool.or_false, List.length_map]
    exact Ends.of ⟨rfl, rfl, rfl, rfl, rfl, rfl, rfl, rfl⟩
  | x :: rest, pre, b, m + 1, env, H, hp, hm, hk => by
    have e0 : pre.length < mem.length := by rw [hp]; simp
    have e1 : (pre.length : Int) < (mem.length : Int) := by omega
    have e2 : (0 : Int) ≤ (pre.length : Int) := by omega
    have e3 := at_pre rowI hp
    have e4 : IntKind.i64.wrap ((pre.length : Int) + 1) = ((pre.length + 1 : Nat) : Int) := cast_add (by omega)
    have ih := loop16 (n := n) d c m0 mr hm0 mem hl view whole nx rest (pre ++ [x]) (b || decide (m0 = x)) m
    have fin : (b || (x :: rest).any fun x => decide (m0 = x)) = ((b || decide (m0 = x)) || rest.any fun x => decide (m0 = x)) := by
      rw [List.any_cons, Bool.or_assoc]
    rw [iter_step, fin]
    generalize iter m (evCode ⟨run tab prim glob n, glob⟩ (iter n) b16_1) = g at ih ⊢
    rw [len1 pre x] at ih
    simp only [Cm.cells, jobZ, hm0, List.map_cons, rowI] at hk ih e3 ⊢
    cases b
    · by_cases k1 : x = m0
      · have k2 : (m0 = x) = True := eq_true k1.symm
        simp only [k2, decide_true, Bool.or_true, Bool.true_or] at ih ⊢
        simp only [b16_1, ob16_1_1, ob16_1_2, ob16_1_3, hk, go_sem, Nat.reduceAdd, Nat.reduceMul, reduceIte, Nat.reduceLeDiff, Int.reduceLE, Int.reduceLT, Int.reduceToNat, e1, e2, e3, e4, k1, List.length_map, Nat.beq_refl, afterIt]
        exact ih _ _ (by rw [hp]; simp) (by simp at hm; omega) rfl
      · have k2 : (m0 = x) = False := eq_false fun h => k1 h.symm
        simp only [k2, decide_false, Bool.or_false, Bool.false_or] at ih ⊢
        simp only [b16_1, ob16_1_1, ob16_1_2, ob16_1_3, hk, go_sem, Nat.reduceAdd, Nat.reduceMul, reduceIte, Nat.reduceLeDiff, Int.reduceLE, Int.reduceLT, Int.reduceToNat, e1, e2, e3, e4, k1, List.length_map, Nat.beq_refl, afterIt]
        exact ih _ _ (by rw [hp]; simp) (by simp at hm; omega) rfl
    · simp only [Bool.true_or] at ih ⊢
      simp only [b16_1, ob16_1_1, ob16_1_2, ob16_1_3, hk, go_sem, Nat.reduceAdd, Nat.reduceMul, reduceIte, Nat.reduceLeDiff, Int.reduceLE, Int.reduceLT, Int.reduceToNat, e1, e2, e3, e4, List.length_map, Nat.beq_refl, afterIt]
      exact ih _ _ (by rw [hp]; simp) (by simp at hm; omega) rfl
def newView (d : Dr) (c : Cm) : Jb := ⟨5, 1, d.next, 0, 0, c.to, 0, 0, [], [], 0, 0, 0, [], [], [], ⟨0, 0, 0⟩, c.members⟩
set_option maxRecDepth 100000 in
set_option maxHeartbeats 4000000 in
theorem cmd_view {N B : Nat} (d : Dr) (hf : d.Fine) (hB : B ≤ 1500000) (hd : d.small B) (c : Cm) (hc : c.members.length ≤ B) (hk : c.kind = 5) (hj : d.job.kind = 0) (hn : ¬ d.next = 1099511627776) (hN : 10 * B + 200 ≤ N) :
    (∃ e, Both N d c d e) ∨ Both N d c ((d.withJob (newView d c)).withNext (d.next + 1)) 0 := by
  obtain ⟨n, rfl⟩ : ∃ n, N = n + 1 := ⟨N - 1, by omega⟩
  have r1 := dir_ok (N := n) d (by omega) hd (by omega)
  rw [(d.fine_iff).2 hf] at r1
  have r2 := stores_ok (N := n) c.members (by omega) (by omega)
  have r3 := stores19_ok (N := n) c.members (by omega) (by omega)
  have n40 := hf.next40
  have n02 := hf.next2
  have n1 : ¬ (d.next ≥ 1099511627776) := by omega
  have n2 : ¬ (1099511627776 ≤ d.next) := by omega
  have k0 : ((0 : Int) < 0) = False := by simp
  unfold Both
  rw [enters (fn := c14) rfl, enters (fn := c16) rfl]
  by_cases t1 : c.to < 1
  · exact .inl ⟨1, by simp only [c14, o14_1, o14_2, o14_3, o14_4, o14_5, o14_6, o14_7, o14_8, o14_9, o14_10, o14_11, o14_12, o14_13, o14_14, o14_15, o14_16, o14_17, o14_18, o14_19, o14_20, o14_21, o14_22, o14_23, o14_24, o14_25, o14_26, o14_27, o14_28, o14_29, o14_30, o14_31, o14_32, o14_33, o14_34, o14_35, o14_36, o14_37, go_sem, Nat.reduceAdd, Nat.reduceMul, reduceIte, Nat.reduceLeDiff, Int.reduceLE, Int.reduceLT, Int.reduceToNat, Cm.cells, r1, hk, hj, hn, t1, Int.reduceEq], by simp only [c16, o16_1, o16_2, o16_3, o16_4, o16_5, o16_6, o16_7, o16_8, o16_9, o16_10, o16_11, o16_12, o16_13, o16_14, o16_15, o16_16, o16_17, o16_18, o16_19, o16_20, o16_21, o16_22, o16_23, o16_24, o16_25, o16_26, o16_27, o16_28, o16_29, o16_30, o16_31, go_sem, Nat.reduceAdd, Nat.reduceMul, reduceIte, Nat.reduceLeDiff, Int.reduceLE, Int.reduceLT, Int.reduceToNat, Cm.cells, hk, hj, n2, k0, t1, Int.reduceEq]⟩
  by_cases t2 : c.to > 3
  · exact .inl ⟨1, by simp only [c14, o14_1, o14_2, o14_3, o14_4, o14_5, o14_6, o14_7, o14_8, o14_9, o14_10, o14_11, o14_12, o14_13, o14_14, o14_15, o14_16, o14_17, o14_18, o14_19, o14_20, o14_21, o14_22, o14_23, o14_24, o14_25, o14_26, o14_27, o14_28, o14_29, o14_30, o14_31, o14_32, o14_33, o14_34, o14_35, o14_36, o14_37, go_sem, Nat.reduceAdd, Nat.reduceMul, reduceIte, Nat.reduceLeDiff, Int.reduceLE, Int.reduceLT, Int.reduceToNat, Cm.cells, r1, hk, hj, hn, t1, t2, Int.reduceEq], by simp only [c16, o16_1, o16_2, o16_3, o16_4, o16_5, o16_6, o16_7, o16_8, o16_9, o16_10, o16_11, o16_12, o16_13, o16_14, o16_15, o16_16, o16_17, o16_18, o16_19, o16_20, o16_21, o16_22, o16_23, o16_24, o16_25, o16_26, o16_27, o16_28, o16_29, o16_30, o16_31, go_sem, Nat.reduceAdd, Nat.reduceMul, reduceIte, Nat.reduceLeDiff, Int.reduceLE, Int.reduceLT, Int.reduceToNat, Cm.cells, hk, hj, n2, k0, t1, t2, Int.reduceEq]⟩
  cases hst : stores c.members
  · rw [hst] at r2 r3
    exact .inl ⟨1, by simp only [c14, o14_1, o14_2, o14_3, o14_4, o14_5, o14_6, o14_7, o14_8, o14_9, o14_10, o14_11, o14_12, o14_13, o14_14, o14_15, o14_16, o14_17, o14_18, o14_19, o14_20, o14_21, o14_22, o14_23, o14_24, o14_25, o14_26, o14_27, o14_28, o14_29, o14_30, o14_31, o14_32, o14_33, o14_34, o14_35, o14_36, o14_37, go_sem, Nat.reduceAdd, Nat.reduceMul, reduceIte, Nat.reduceLeDiff, Int.reduceLE, Int.reduceLT, Int.reduceToNat, Cm.cells, r1, r2, hk, hj, hn, t1, t2, Int.reduceEq], by simp only [c16, o16_1, o16_2, o16_3, o16_4, o16_5, o16_6, o16_7, o16_8, o16_9, o16_10, o16_11, o16_12, o16_13, o16_14, o16_15, o16_16, o16_17, o16_18, o16_19, o16_20, o16_21, o16_22, o16_23, o16_24, o16_25, o16_26, o16_27, o16_28, o16_29, o16_30, o16_31, go_sem, Nat.reduceAdd, Nat.reduceMul, reduceIte, Nat.reduceLeDiff, Int.reduceLE, Int.reduceLT, Int.reduceToNat, Cm.cells, r3, hk, hj, n2, k0, t1, t2, Int.reduceEq]⟩
  rw [hst] at r2 r3
  obtain ⟨m0, mr, hm0⟩ := stores_cons hst
  obtain ⟨x, s, h1, h2, h3⟩ := hf.cell c.to (by omega) (by omega)
  obtain ⟨p, hp⟩ : ∃ p : Nat, (c.to - 1) = (p : Int) := ⟨(c.to - 1).toNat, by omega⟩
  have w1 : IntKind.i64.wrap (c.to - 1) = (p : Int) := by rw [IntWalk.i64_in _ (by omega)]; exact hp
  rw [hp, Int.toNat_natCast] at h1
  have p0 : (0 : Int) ≤ (p : Int) := by omega
  have g1 : (d.cells.map infRow)[p]? = some (infRow x) := by rw [List.getElem?_map, h1]; rfl
  have hx := hd.cells x (List.mem_of_getElem? h1)
  simp only [infRow] at g1
  cases hw : x.whole
  · rw [hw] at g1
    exact .inl ⟨11, by simp only [c14, o14_1, o14_2, o14_3, o14_4, o14_5, o14_6, o14_7, o14_8, o14_9, o14_10, o14_11, o14_12, o14_13, o14_14, o14_15, o14_16, o14_17, o14_18, o14_19, o14_20, o14_21, o14_22, o14_23, o14_24, o14_25, o14_26, o14_27, o14_28, o14_29, o14_30, o14_31, o14_32, o14_33, o14_34, o14_35, o14_36, o14_37, go_sem, Nat.reduceAdd, Nat.reduceMul, reduceIte, Nat.reduceLeDiff, Int.reduceLE, Int.reduceLT, Int.reduceToNat, Cm.cells, r1, r2, hk, hj, hn, t1, t2, w1, p0, g1, Int.reduceEq], by simp only [c16, o16_1, o16_2, o16_3, o16_4, o16_5, o16_6, o16_7, o16_8, o16_9, o16_10, o16_11, o16_12, o16_13, o16_14, o16_15, o16_16, o16_17, o16_18, o16_19, o16_20, o16_21, o16_22, o16_23, o16_24, o16_25, o16_26, o16_27, o16_28, o16_29, o16_30, o16_31, go_sem, Nat.reduceAdd, Nat.reduceMul, reduceIte, Nat.reduceLeDiff, Int.reduceLE, Int.reduceLT, Int.reduceToNat, Cm.cells, r3, hk, hj, n2, k0, t1, t2, w1, p0, g1, Int.reduceEq]⟩
  rw [hw] at g1
  have r4 := contains_ok (N := n) x.members (by omega) m0 (by omega)
  have r5 := clone_ok (N := n) (by omega) c.members (by omega)
  have hL := fun env H h => loop16 (n := n) d c m0 mr hm0 x.members (by omega) x.view true d.next x.members [] false n env H rfl (by omega) h
  generalize hg : iter n (evCode ⟨run tab prim glob n, glob⟩ (iter n) b16_1) = g at hL
  have wn : IntKind.i64.wrap (d.next + 1) = d.next + 1 := IntWalk.i64_in _ (by omega)
  cases hb : x.members.any (fun y => decide (m0 = y))
  · rw [hb] at r4 hL
    refine .inl ⟨9, ?_, ?_⟩
    · simp only [Cm.cells, hm0, List.map_cons, rowI] at r2 ⊢
      simp only [c14, o14_1, o14_2, o14_3, o14_4, o14_5, o14_6, o14_7, o14_8, o14_9, o14_10, o14_11, o14_12, o14_13, o14_14, o14_15, o14_16, o14_17, o14_18, o14_19, o14_20, o14_21, o14_22, o14_23, o14_24, o14_25, o14_26, o14_27, o14_28, o14_29, o14_30, o14_31, o14_32, o14_33, o14_34, o14_35, o14_36, o14_37, go_sem, Nat.reduceAdd, Nat.reduceMul, reduceIte, Nat.reduceLeDiff, Int.reduceLE, Int.reduceLT, Int.reduceToNat, r1, r2, r4, hk, hj, hn, t1, t2, w1, p0, g1, Int.reduceEq]
    · simp only [Cm.cells, jobZ, refZ, hk, hm0, List.map_cons, rowI, Bool.or_false, Bool.or_true, List.length_nil] at r3 hL ⊢
      simp only [c16, o16_1, o16_2, o16_3, o16_4, o16_5, o16_6, o16_7, o16_8, o16_9, o16_10, o16_11, o16_12, o16_13, o16_14, o16_15, o16_16, o16_17, o16_18, o16_19, o16_20, o16_21, o16_22, o16_23, o16_24, o16_25, o16_26, o16_27, o16_28, o16_29, o16_30, o16_31, go_sem, Nat.reduceAdd, Nat.reduceMul, reduceIte, Nat.reduceLeDiff, Int.reduceLE, Int.reduceLT, Int.reduceToNat, mentL, ment, ment1, evGh, keepE, keepH, r3, hk, hj, n2, k0, t1, t2, w1, p0, g1, hg, Int.reduceEq]
      generalize hE : g _ _ = o
      obtain ⟨ex, env', H', rfl, rfl, e2, e3, e4, e6, e7, e9, rfl⟩ := Ends.at hL hE (by simp only [go_sem, Nat.reduceAdd, Nat.reduceMul, reduceIte, Nat.reduceLeDiff, Int.reduceLE, Int.reduceLT, Int.reduceToNat, mentL, ment, ment1, evGh, keepE, keepH])
      simp only [go_sem, Nat.reduceAdd, Nat.reduceMul, reduceIte, Nat.reduceLeDiff, Int.reduceLE, Int.reduceLT, Int.reduceToNat, e2, e3, e4, e6, e7, e9]
  · rw [hb] at r4 hL
    right
    refine ⟨?_, ?_⟩
    · simp only [Cm.cells, Dr.withNext, Dr.withJob, Dr.cellsL, Jb.cells, St.cells, newView, hm0, hj, List.map_cons, List.map_nil, List.cons_append, List.nil_append, rowI] at r1 r2 r5 ⊢
      simp only [c14, o14_1, o14_2, o14_3, o14_4, o14_5, o14_6, o14_7, o14_8, o14_9, o14_10, o14_11, o14_12, o14_13, o14_14, o14_15, o14_16, o14_17, o14_18, o14_19, o14_20, o14_21, o14_22, o14_23, o14_24, o14_25, o14_26, o14_27, o14_28, o14_29, o14_30, o14_31, o14_32, o14_33, o14_34, o14_35, o14_36, o14_37, go_sem, Nat.reduceAdd, Nat.reduceMul, reduceIte, Nat.reduceLeDiff, Int.reduceLE, Int.reduceLT, Int.reduceToNat, mentL, ment, ment1, evGh, keepE, keepH, r1, r2, r4, r5, hk, hn, t1, t2, w1, p0, g1, wn, Int.reduceEq, Nat.beq_refl, List.take_length]
    · simp only [Cm.cells, newView, jobZ, refZ, hk, hm0, List.map_cons, rowI, Bool.or_false, Bool.or_true, List.length_nil] at r3 hL ⊢
      simp only [c16, o16_1, o16_2, o16_3, o16_4, o16_5, o16_6, o16_7, o16_8, o16_9, o16_10, o16_11, o16_12, o16_13, o16_14, o16_15, o16_16, o16_17, o16_18, o16_19, o16_20, o16_21, o16_22, o16_23, o16_24, o16_25, o16_26, o16_27, o16_28, o16_29, o16_30, o16_31, go_sem, Nat.reduceAdd, Nat.reduceMul, reduceIte, Nat.reduceLeDiff, Int.reduceLE, Int.reduceLT, Int.reduceToNat, mentL, ment, ment1, evGh, keepE, keepH, r3, hk, hj, n2, k0, t1, t2, w1, p0, g1, hg, Int.reduceEq]
      generalize hE : g _ _ = o
      obtain ⟨ex, env', H', rfl, rfl, e2, e3, e4, e6, e7, e9, rfl⟩ := Ends.at hL hE (by simp only [go_sem, Nat.reduceAdd, Nat.reduceMul, reduceIte, Nat.reduceLeDiff, Int.reduceLE, Int.reduceLT, Int.reduceToNat, mentL, ment, ment1, evGh, keepE, keepH])
      simp only [Dr.withNext, Dr.withJob, Dr.cellsL, Jb.cells, St.cells, newView, hm0, hj, List.map_cons, List.map_nil, List.cons_append, List.nil_append, rowI]
      simp only [go_sem, Nat.reduceAdd, Nat.reduceMul, reduceIte, Nat.reduceLeDiff, Int.reduceLE, Int.reduceLT, Int.reduceToNat, mentL, ment, ment1, evGh, keepE, keepH, e2, e3, e4, e6, e7, e9, wn, Nat.beq_refl, List.take_length]
end Go.Proofs.YtefoleocbhkobaaGreatDoor
namespace Go.Proofs.YtefoleocbhkobaaGreatDoor
open Go Go.Ev
set_option linter.unusedSectionVars false
set_option linter.unusedSimpArgs false
set_option linter.unusedVariables false
theorem moved_zero {l : List Pl} {id to epoch : Int} (h : movedE l id to epoch = 0) : ∃ (p : Pl) (k : Nat), ofPl l id = some p ∧ idxFrom (isId id) 0 l = (k : Int) ∧ l[k]? = some p := by
  rcases of_idx l id with ⟨h1, h2⟩ | h1
  · unfold movedE at h
    rw [h1] at h
    split at h
    · simp at h
    · simp at h
  · exact h1
theorem parted_zero {l : List Pl} {id epoch : Int} {k : List UInt8} (h : partedE l id k epoch = 0) : ∃ (p : Pl) (k : Nat), ofPl l id = some p ∧ idxFrom (isId id) 0 l = (k : Int) ∧ l[k]? = some p := by
  rcases of_idx l id with ⟨h1, h2⟩ | h1
  · unfold partedE at h
    rw [h1] at h
    simp at h
  · exact h1
theorem joined_zero {l : List Pl} {id other epoch : Int} (h : joinedE l id other epoch = 0) : ∃ (p : Pl) (k : Nat), ofPl l id = some p ∧ idxFrom (isId id) 0 l = (k : Int) ∧ l[k]? = some p := by
  rcases of_idx l id with ⟨h1, h2⟩ | h1
  · unfold joinedE at h
    rw [h1] at h
    split at h
    · simp at h
    · simp at h
  · exact h1
def newMove (d : Dr) (c : Cm) (p : Pl) : Jb := ⟨1, 1, d.next, c.shard, 0, p.cell, c.to, p.epoch, [], [], 0, 0, 0, [], [], [], ⟨0, 0, 0⟩, []⟩
set_option maxRecDepth 100000 in
set_option maxHeartbeats 4000000 in
theorem cmd_move {N B : Nat} (d : Dr) (hf : d.Fine) (hB : B ≤ 1500000) (hd : d.small B) (c : Cm) (hk : c.kind = 1) (hj : d.job.kind = 0) (hn : ¬ d.next = 1099511627776) (hN : 10 * B + 200 ≤ N) :
    (∃ e, Both N d c d e) ∨ ∃ j, j.wait = [] ∧ j.members = [] ∧ j.parts = [] ∧ Both N d c ((d.withJob j).withNext (d.next + 1)) 0 := by
  obtain ⟨n, rfl⟩ : ∃ n, N = n + 1 := ⟨N - 1, by omega⟩
  have r1 := dir_ok (N := n) d (by omega) hd (by omega)
  rw [(d.fine_iff).2 hf] at r1
  have n40 := hf.next40
  have n02 := hf.next2
  have n2 : ¬ (1099511627776 ≤ d.next) := by omega
  have k0 : ((0 : Int) < 0) = False := by simp
  have he : rng 1 1099511627776 d.next = true := by simp [rng]; omega
  obtain ⟨R1, r2⟩ := moved_ok (N := n) d.places hB hd.places hd.texts hf.places c.shard c.to d.next he (by omega)
  obtain ⟨R2, r3⟩ := change0_ok (N := n) d.places hB hd.places hd.texts hf.places c.shard c.to d.next c.key he (by omega)
  have w0 : IntKind.i64.wrap ((1 : Int) - 1) = 0 := by decide
  unfold Both
  rw [enters (fn := c14) rfl, enters (fn := c16) rfl]
  by_cases hz : movedE d.places c.shard c.to d.next = 0
  rotate_left
  · generalize movedE d.places c.shard c.to d.next = e at r2 r3 hz
    exact .inl ⟨e, by simp only [c14, o14_1, o14_2, o14_3, o14_4, o14_5, o14_6, o14_7, o14_8, o14_9, o14_10, o14_11, o14_12, o14_13, o14_14, o14_15, o14_16, o14_17, o14_18, o14_19, o14_20, o14_21, o14_22, o14_23, o14_24, o14_25, o14_26, o14_27, o14_28, o14_29, o14_30, o14_31, o14_32, o14_33, o14_34, o14_35, o14_36, o14_37, go_sem, Nat.reduceAdd, Nat.reduceMul, reduceIte, Nat.reduceLeDiff, Int.reduceLE, Int.reduceLT, Int.reduceToNat, Cm.cells, r1, r2, hk, hj, hn, hz, Int.reduceEq], by simp only [c16, o16_1, o16_2, o16_3, o16_4, o16_5, o16_6, o16_7, o16_8, o16_9, o16_10, o16_11, o16_12, o16_13, o16_14, o16_15, o16_16, o16_17, o16_18, o16_19, o16_20, o16_21, o16_22, o16_23, o16_24, o16_25, o16_26, o16_27, o16_28, o16_29, o16_30, o16_31, k16_1, ok16_1_1, ok16_1_2, ok16_1_3, ok16_1_4, ok16_1_5, ok16_1_6, ok16_1_7, ok16_1_8, ok16_1_9, ok16_1_10, ok16_1_11, ok16_1_12, ok16_1_13, ok16_1_14, ok16_1_15, ok16_1_16, ok16_1_17, go_sem, Nat.reduceAdd, Nat.reduceMul, reduceIte, Nat.reduceLeDiff, Int.reduceLE, Int.reduceLT, Int.reduceToNat, Cm.cells, r3, hk, hj, n2, k0, hz, w0, Int.reduceEq]⟩
  right
  obtain ⟨p, k, h1, h2, h3⟩ := moved_zero hz
  rw [hz] at r2 r3
  have r4 := of_ok (N := n) d.places (by omega) hd.places hd.texts hf.places c.shard (by omega)
  have hpl := hd.places
  have r5 := at15_ok (N := n) d.places (by omega) c.shard (by omega)
  rw [h1] at r4
  rw [h2] at r5
  have g2 : (0 : Int) ≤ (k : Int) := by omega
  have g3 : (d.places.map Pl.cells)[k]? = some p.cells := by rw [List.getElem?_map, h3]; rfl
  simp only [Pl.cells] at g3
  simp only [ofRes, Pl.cells] at r4
  have wn : IntKind.i64.wrap (d.next + 1) = d.next + 1 := IntWalk.i64_in _ (by omega)
  refine ⟨newMove d c p, rfl, rfl, rfl, ?_, ?_⟩
  · simp only [Cm.cells, Dr.withNext, Dr.withJob, Dr.cellsL, Jb.cells, St.cells, newMove, hj, List.map_nil, List.cons_append, List.nil_append] at r1 ⊢
    simp only [c14, o14_1, o14_2, o14_3, o14_4, o14_5, o14_6, o14_7, o14_8, o14_9, o14_10, o14_11, o14_12, o14_13, o14_14, o14_15, o14_16, o14_17, o14_18, o14_19, o14_20, o14_21, o14_22, o14_23, o14_24, o14_25, o14_26, o14_27, o14_28, o14_29, o14_30, o14_31, o14_32, o14_33, o14_34, o14_35, o14_36, o14_37, go_sem, Nat.reduceAdd, Nat.reduceMul, reduceIte, Nat.reduceLeDiff, Int.reduceLE, Int.reduceLT, Int.reduceToNat, mentL, ment, ment1, evGh, keepE, keepH, r1, r2, r4, hk, hn, wn, Int.reduceEq]
  · simp only [Cm.cells, Dr.withNext, Dr.withJob, Dr.cellsL, Jb.cells, St.cells, newMove, hj, List.map_nil, List.cons_append, List.nil_append]
    simp only [c16, o16_1, o16_2, o16_3, o16_4, o16_5, o16_6, o16_7, o16_8, o16_9, o16_10, o16_11, o16_12, o16_13, o16_14, o16_15, o16_16, o16_17, o16_18, o16_19, o16_20, o16_21, o16_22, o16_23, o16_24, o16_25, o16_26, o16_27, o16_28, o16_29, o16_30, o16_31, k16_1, ok16_1_1, ok16_1_2, ok16_1_3, ok16_1_4, ok16_1_5, ok16_1_6, ok16_1_7, ok16_1_8, ok16_1_9, ok16_1_10, ok16_1_11, ok16_1_12, ok16_1_13, ok16_1_14, ok16_1_15, ok16_1_16, ok16_1_17, go_sem, Nat.reduceAdd, Nat.reduceMul, reduceIte, Nat.reduceLeDiff, Int.reduceLE, Int.reduceLT, Int.reduceToNat, mentL, ment, ment1, evGh, keepE, keepH, r3, r5, hk, n2, k0, w0, g2, g3, wn, Int.reduceEq]
end Go.Proofs.YtefoleocbhkobaaGreatDoor
namespace Go.Proofs.YtefoleocbhkobaaGreatDoor
open Go Go.Ev
set_option linter.unusedSectionVars false
set_option linter.unusedSimpArgs false
set_option linter.unusedVariables false
def newSplit (d : Dr) (c : Cm) (p : Pl) : Jb := ⟨2, 1, d.next, c.shard, d.next, p.cell, 0, p.epoch, c.key, [], 0, 0, 0, [], [], [], ⟨0, 0, 0⟩, []⟩
set_option maxRecDepth 100000 in
set_option maxHeartbeats 4000000 in
theorem cmd_split {N B : Nat} (d : Dr) (hf : d.Fine) (hB : B ≤ 1500000) (hd : d.small B) (c : Cm) (hk : c.kind = 2) (hkey : c.key.length ≤ B) (hj : d.job.kind = 0) (hn : ¬ d.next = 1099511627776) (hN : 10 * B + 200 ≤ N) :
    (∃ e, Both N d c d e) ∨ ∃ j, j.wait = [] ∧ j.members = [] ∧ j.parts = [] ∧ Both N d c ((d.withJob j).withNext (d.next + 1)) 0 := by
  obtain ⟨n, rfl⟩ : ∃ n, N = n + 1 := ⟨N - 1, by omega⟩
  have r1 := dir_ok (N := n) d (by omega) hd (by omega)
  rw [(d.fine_iff).2 hf] at r1
  have n40 := hf.next40
  have n02 := hf.next2
  have n2 : ¬ (1099511627776 ≤ d.next) := by omega
  have k0 : ((0 : Int) < 0) = False := by simp
  have he : rng 1 1099511627776 d.next = true := by simp [rng]; omega
  obtain ⟨R1, r2⟩ := parted_ok (N := n) d.places hB hd.places hd.texts hf.places c.shard c.key hkey d.next he (by omega)
  obtain ⟨R2, r3⟩ := change1_ok (N := n) d.places hB hd.places hd.texts hf.places c.shard d.next c.key hkey he (by omega)
  have w0 : IntKind.i64.wrap ((2 : Int) - 1) = 1 := by decide
  unfold Both
  rw [enters (fn := c14) rfl, enters (fn := c16) rfl]
  by_cases hz : partedE d.places c.shard c.key d.next = 0
  rotate_left
  · generalize partedE d.places c.shard c.key d.next = e at r2 r3 hz
    exact .inl ⟨e, by simp only [c14, o14_1, o14_2, o14_3, o14_4, o14_5, o14_6, o14_7, o14_8, o14_9, o14_10, o14_11, o14_12, o14_13, o14_14, o14_15, o14_16, o14_17, o14_18, o14_19, o14_20, o14_21, o14_22, o14_23, o14_24, o14_25, o14_26, o14_27, o14_28, o14_29, o14_30, o14_31, o14_32, o14_33, o14_34, o14_35, o14_36, o14_37, go_sem, Nat.reduceAdd, Nat.reduceMul, reduceIte, Nat.reduceLeDiff, Int.reduceLE, Int.reduceLT, Int.reduceToNat, Cm.cells, r1, r2, hk, hj, hn, hz, Int.reduceEq], by simp only [c16, o16_1, o16_2, o16_3, o16_4, o16_5, o16_6, o16_7, o16_8, o16_9, o16_10, o16_11, o16_12, o16_13, o16_14, o16_15, o16_16, o16_17, o16_18, o16_19, o16_20, o16_21, o16_22, o16_23, o16_24, o16_25, o16_26, o16_27, o16_28, o16_29, o16_30, o16_31, k16_1, ok16_1_1, ok16_1_2, ok16_1_3, ok16_1_4, ok16_1_5, ok16_1_6, ok16_1_7, ok16_1_8, ok16_1_9, ok16_1_10, ok16_1_11, ok16_1_12, ok16_1_13, ok16_1_14, ok16_1_15, ok16_1_16, ok16_1_17, go_sem, Nat.reduceAdd, Nat.reduceMul, reduceIte, Nat.reduceLeDiff, Int.reduceLE, Int.reduceLT, Int.reduceToNat, Cm.cells, r3, hk, hj, n2, k0, hz, w0, Int.reduceEq]⟩
  right
  obtain ⟨p, k, h1, h2, h3⟩ := parted_zero hz
  rw [hz] at r2 r3
  have r4 := of_ok (N := n) d.places (by omega) hd.places hd.texts hf.places c.shard (by omega)
  have hpl := hd.places
  have r5 := at15_ok (N := n) d.places (by omega) c.shard (by omega)
  rw [h1] at r4
  rw [h2] at r5
  have g2 : (0 : Int) ≤ (k : Int) := by omega
  have g3 : (d.places.map Pl.cells)[k]? = some p.cells := by rw [List.getElem?_map, h3]; rfl
  simp only [Pl.cells] at g3
  simp only [ofRes, Pl.cells] at r4
  have wn : IntKind.i64.wrap (d.next + 1) = d.next + 1 := IntWalk.i64_in _ (by omega)
  refine ⟨newSplit d c p, rfl, rfl, rfl, ?_, ?_⟩
  · simp only [Cm.cells, Dr.withNext, Dr.withJob, Dr.cellsL, Jb.cells, St.cells, newSplit, hj, List.map_nil, List.cons_append, List.nil_append] at r1 ⊢
    simp only [c14, o14_1, o14_2, o14_3, o14_4, o14_5, o14_6, o14_7, o14_8, o14_9, o14_10, o14_11, o14_12, o14_13, o14_14, o14_15, o14_16, o14_17, o14_18, o14_19, o14_20, o14_21, o14_22, o14_23, o14_24, o14_25, o14_26, o14_27, o14_28, o14_29, o14_30, o14_31, o14_32, o14_33, o14_34, o14_35, o14_36, o14_37, go_sem, Nat.reduceAdd, Nat.reduceMul, reduceIte, Nat.reduceLeDiff, Int.reduceLE, Int.reduceLT, Int.reduceToNat, mentL, ment, ment1, evGh, keepE, keepH, r1, r2, r4, hk, hn, wn, Int.reduceEq]
  · simp only [Cm.cells, Dr.withNext, Dr.withJob, Dr.cellsL, Jb.cells, St.cells, newSplit, hj, List.map_nil, List.cons_append, List.nil_append]
    simp only [c16, o16_1, o16_2, o16_3, o16_4, o16_5, o16_6, o16_7, o16_8, o16_9, o16_10, o16_11, o16_12, o16_13, o16_14, o16_15, o16_16, o16_17, o16_18, o16_19, o16_20, o16_21, o16_22, o16_23, o16_24, o16_25, o16_26, o16_27, o16_28, o16_29, o16_30, o16_31, k16_1, ok16_1_1, ok16_1_2, ok16_1_3, ok16_1_4, ok16_1_5, ok16_1_6, ok16_1_7, ok16_1_8, ok16_1_9, ok16_1_10, ok16_1_11, ok16_1_12, ok16_1_13, ok16_1_14, ok16_1_15, ok16_1_16, ok16_1_17, go_sem, Nat.reduceAdd, Nat.reduceMul, reduceIte, Nat.reduceLeDiff, Int.reduceLE, Int.reduceLT, Int.reduceToNat, mentL, ment, ment1, evGh, keepE, keepH, r3, r5, hk, n2, k0, w0, g2, g3, wn, Int.reduceEq]
def newMerge (d : Dr) (c : Cm) (p : Pl) : Jb := ⟨3, 1, d.next, c.shard, c.other, p.cell, 0, p.epoch, [], [], 0, 0, 0, [], [], [], ⟨0, 0, 0⟩, []⟩
set_option maxRecDepth 100000 in
set_option maxHeartbeats 4000000 in
theorem cmd_merge {N B : Nat} (d : Dr) (hf : d.Fine) (hB : B ≤ 1500000) (hd : d.small B) (c : Cm) (hk : c.kind = 3) (hj : d.job.kind = 0) (hn : ¬ d.next = 1099511627776) (hN : 10 * B + 200 ≤ N) :
    (∃ e, Both N d c d e) ∨ ∃ j, j.wait = [] ∧ j.members = [] ∧ j.parts = [] ∧ Both N d c ((d.withJob j).withNext (d.next + 1)) 0 := by
  obtain ⟨n, rfl⟩ : ∃ n, N = n + 1 := ⟨N - 1, by omega⟩
  have r1 := dir_ok (N := n) d (by omega) hd (by omega)
  rw [(d.fine_iff).2 hf] at r1
  have n40 := hf.next40
  have n02 := hf.next2
  have n2 : ¬ (1099511627776 ≤ d.next) := by omega
  have k0 : ((0 : Int) < 0) = False := by simp
  have he : rng 1 1099511627776 d.next = true := by simp [rng]; omega
  obtain ⟨R1, r2⟩ := joined_ok (N := n) d.places hB hd.places hd.texts hf.places c.shard c.other d.next he (by omega)
  obtain ⟨R2, r3⟩ := change2_ok (N := n) d.places hB hd.places hd.texts hf.places c.shard c.other d.next c.key he (by omega)
  have w0 : IntKind.i64.wrap ((3 : Int) - 1) = 2 := by decide
  unfold Both
  rw [enters (fn := c14) rfl, enters (fn := c16) rfl]
  by_cases hz : joinedE d.places c.shard c.other d.next = 0
  rotate_left
  · generalize joinedE d.places c.shard c.other d.next = e at r2 r3 hz
    exact .inl ⟨e, by simp only [c14, o14_1, o14_2, o14_3, o14_4, o14_5, o14_6, o14_7, o14_8, o14_9, o14_10, o14_11, o14_12, o14_13, o14_14, o14_15, o14_16, o14_17, o14_18, o14_19, o14_20, o14_21, o14_22, o14_23, o14_24, o14_25, o14_26, o14_27, o14_28, o14_29, o14_30, o14_31, o14_32, o14_33, o14_34, o14_35, o14_36, o14_37, go_sem, Nat.reduceAdd, Nat.reduceMul, reduceIte, Nat.reduceLeDiff, Int.reduceLE, Int.reduceLT, Int.reduceToNat, Cm.cells, r1, r2, hk, hj, hn, hz, Int.reduceEq], by simp only [c16, o16_1, o16_2, o16_3, o16_4, o16_5, o16_6, o16_7, o16_8, o16_9, o16_10, o16_11, o16_12, o16_13, o16_14, o16_15, o16_16, o16_17, o16_18, o16_19, o16_20, o16_21, o16_22, o16_23, o16_24, o16_25, o16_26, o16_27, o16_28, o16_29, o16_30, o16_31, k16_1, ok16_1_1, ok16_1_2, ok16_1_3, ok16_1_4, ok16_1_5, ok16_1_6, ok16_1_7, ok16_1_8, ok16_1_9, ok16_1_10, ok16_1_11, ok16_1_12, ok16_1_13, ok16_1_14, ok16_1_15, ok16_1_16, ok16_1_17, go_sem, Nat.reduceAdd, Nat.reduceMul, reduceIte, Nat.reduceLeDiff, Int.reduceLE, Int.reduceLT, Int.reduceToNat, Cm.cells, r3, hk, hj, n2, k0, hz, w0, Int.reduceEq]⟩
  right
  obtain ⟨p, k, h1, h2, h3⟩ := joined_zero hz
  rw [hz] at r2 r3
  have r4 := of_ok (N := n) d.places (by omega) hd.places hd.texts hf.places c.shard (by omega)
  have hpl := hd.places
  have r5 := at15_ok (N := n) d.places (by omega) c.shard (by omega)
  rw [h1] at r4
  rw [h2] at r5
  have g2 : (0 : Int) ≤ (k : Int) := by omega
  have g3 : (d.places.map Pl.cells)[k]? = some p.cells := by rw [List.getElem?_map, h3]; rfl
  simp only [Pl.cells] at g3
  simp only [ofRes, Pl.cells] at r4
  have wn : IntKind.i64.wrap (d.next + 1) = d.next + 1 := IntWalk.i64_in _ (by omega)
  refine ⟨newMerge d c p, rfl, rfl, rfl, ?_, ?_⟩
  · simp only [Cm.cells, Dr.withNext, Dr.withJob, Dr.cellsL, Jb.cells, St.cells, newMerge, hj, List.map_nil, List.cons_append, List.nil_append] at r1 ⊢
    simp only [c14, o14_1, o14_2, o14_3, o14_4, o14_5, o14_6, o14_7, o14_8, o14_9, o14_10, o14_11, o14_12, o14_13, o14_14, o14_15, o14_16, o14_17, o14_18, o14_19, o14_20, o14_21, o14_22, o14_23, o14_24, o14_25, o14_26, o14_27, o14_28, o14_29, o14_30, o14_31, o14_32, o14_33, o14_34, o14_35, o14_36, o14_37, go_sem, Nat.reduceAdd, Nat.reduceMul, reduceIte, Nat.reduceLeDiff, Int.reduceLE, Int.reduceLT, Int.reduceToNat, mentL, ment, ment1, evGh, keepE, keepH, r1, r2, r4, hk, hn, wn, Int.reduceEq]
  · simp only [Cm.cells, Dr.withNext, Dr.withJob, Dr.cellsL, Jb.cells, St.cells, newMerge, hj, List.map_nil, List.cons_append, List.nil_append]
    simp only [c16, o16_1, o16_2, o16_3, o16_4, o16_5, o16_6, o16_7, o16_8, o16_9, o16_10, o16_11, o16_12, o16_13, o16_14, o16_15, o16_16, o16_17, o16_18, o16_19, o16_20, o16_21, o16_22, o16_23, o16_24, o16_25, o16_26, o16_27, o16_28, o16_29, o16_30, o16_31, k16_1, ok16_1_1, ok16_1_2, ok16_1_3, ok16_1_4, ok16_1_5, ok16_1_6, ok16_1_7, ok16_1_8, ok16_1_9, ok16_1_10, ok16_1_11, ok16_1_12, ok16_1_13, ok16_1_14, ok16_1_15, ok16_1_16, ok16_1_17, go_sem, Nat.reduceAdd, Nat.reduceMul, reduceIte, Nat.reduceLeDiff, Int.reduceLE, Int.reduceLT, Int.reduceToNat, mentL, ment, ment1, evGh, keepE, keepH, r3, r5, hk, n2, k0, w0, g2, g3, wn, Int.reduceEq]
end Go.Proofs.YtefoleocbhkobaaGreatDoor
namespace Go.Proofs.YtefoleocbhkobaaGreatDoor
open Go Go.Ev
set_option linter.unusedSectionVars false
set_option linter.unusedSimpArgs false
set_option linter.unusedVariables false
section
variable (c : Cm)
@[go_sem] theorem cm_clo (H : Heap) : cloL H c.cells = some (c.cells, []) := rfl
@[go_sem] theorem cm_ment (ids : List Nat) : mentL ids c.cells = true := rfl
@[go_sem] theorem cm_len : c.cells.length = 6 := rfl
@[go_sem high] theorem cm_all : rdc c.cells 0 6 true = some (.agg c.cells) := rfl
@[go_sem] theorem cm4 : c.cells[4]? = some (.str c.key) := rfl
@[go_sem] theorem cm5 : c.cells[5]? = some (.ro (c.members.map rowI)) := rfl
end
theorem stepped_small {d : Dr} {B : Nat} (h : d.small B) (n : Int) : (d.stepped n).small B := ⟨h.places, h.texts, h.leases, h.wait, h.jobm, h.opened, h.cells⟩
theorem given_small {d : Dr} {B : Nat} (h : d.small B) (j : Jb) (n : Int) (h1 : j.wait = []) (h2 : j.members.length ≤ B) : ((d.withJob j).withNext n).small B := ⟨h.places, h.texts, h.leases, (by show j.wait.length ≤ B; rw [h1]; exact Nat.zero_le _), h2, h.opened, h.cells⟩
theorem cmd_all {N B : Nat} (d : Dr) (hf : d.Fine) (hB : B ≤ 1500000) (hd : d.small B) (hpa : d.job.parts.length ≤ B) (c : Cm) (hc : c.members.length ≤ B) (hkey : c.key.length ≤ B) (hN : 10 * B + 200 ≤ N) :
    ∃ x e, Both N d c x e ∧ x.small B ∧ x.cells = d.cells ∧ x.lows = d.lows ∧ x.job.parts.length ≤ B := by
  have same : ∀ e, Both N d c d e → ∃ x e, Both N d c x e ∧ x.small B ∧ x.cells = d.cells ∧ x.lows = d.lows ∧ x.job.parts.length ≤ B := fun e h => ⟨d, e, h, hd, rfl, rfl, hpa⟩
  have shard : ((∃ e, Both N d c d e) ∨ ∃ j, j.wait = [] ∧ j.members = [] ∧ j.parts = [] ∧ Both N d c ((d.withJob j).withNext (d.next + 1)) 0) → ∃ x e, Both N d c x e ∧ x.small B ∧ x.cells = d.cells ∧ x.lows = d.lows ∧ x.job.parts.length ≤ B := by
    rintro (⟨e, h⟩ | ⟨j, h1, h2, h3, h⟩)
    · exact same e h
    · exact ⟨_, 0, h, given_small hd j _ h1 (by rw [h2]; exact Nat.zero_le _), rfl, rfl, by show j.parts.length ≤ B; rw [h3]; exact Nat.zero_le _⟩
  by_cases k1 : c.kind < 1
  · exact same 1 (cmd_none d hf hB hd c (.inl k1) hN)
  by_cases k2 : c.kind > 6
  · exact same 1 (cmd_none d hf hB hd c (.inr (.inl k2)) hN)
  by_cases k3 : c.kind = 4
  · exact same 1 (cmd_none d hf hB hd c (.inr (.inr k3)) hN)
  by_cases k4 : c.kind = 6
  · obtain ⟨n, e, h⟩ := cmd_abort d hf hB hd c k4 hN
    exact ⟨_, e, h, stepped_small hd n, rfl, rfl, hpa⟩
  by_cases k5 : d.job.kind = 0
  rotate_left
  · exact same 11 (cmd_busy d hf hB hd c k1 k2 k3 k4 k5 hN)
  by_cases k6 : d.next = 1099511627776
  · exact same 6 (cmd_full d hf hB hd c k1 k2 k3 k4 k5 k6 hN)
  have k : c.kind = 1 ∨ c.kind = 2 ∨ c.kind = 3 ∨ c.kind = 5 := by omega
  rcases k with k | k | k | k
  · exact shard (cmd_move d hf hB hd c k k5 k6 hN)
  · exact shard (cmd_split d hf hB hd c k hkey k5 k6 hN)
  · exact shard (cmd_merge d hf hB hd c k k5 k6 hN)
  · rcases cmd_view d hf hB hd c hc k k5 k6 hN with ⟨e, h⟩ | h
    · exact same e h
    · exact ⟨_, 0, h, given_small hd _ _ rfl hc, rfl, rfl, Nat.zero_le _⟩
set_option maxRecDepth 100000 in
theorem cmdBad_ok {N B : Nat} (d : Dr) (hf : d.right = false) (hB : B ≤ 1500000) (hd : d.small B) (c : Cm) (hN : 10 * B + 200 ≤ N) : run tab prim glob N 14 [.agg d.cellsL, .agg c.cells] = some (.tuple [.agg d.cellsL, .int .i64 1], []) := by
  obtain ⟨n, rfl⟩ : ∃ n, N = n + 1 := ⟨N - 1, by omega⟩
  rw [enters (fn := c14) rfl]
  have r1 := dir_ok (N := n) d (by omega) hd (by omega)
  rw [hf] at r1
  simp only [c14, o14_1, o14_2, o14_3, o14_4, o14_5, o14_6, o14_7, o14_8, o14_9, o14_10, o14_11, o14_12, o14_13, o14_14, o14_15, o14_16, o14_17, o14_18, o14_19, o14_20, o14_21, o14_22, o14_23, o14_24, o14_25, o14_26, o14_27, o14_28, o14_29, o14_30, o14_31, o14_32, o14_33, o14_34, o14_35, o14_36, o14_37, go_sem, Nat.reduceAdd, Nat.reduceMul, reduceIte, Nat.reduceLeDiff, Int.reduceLE, Int.reduceLT, Int.reduceToNat, r1]
set_option maxRecDepth 100000 in
set_option maxHeartbeats 4000000 in
theorem commands_ok {N B : Nat} (d : Dr) (c : Cm) (hB : B ≤ 1500000) (hd : d.small B) (hc : d.cells.length ≤ B) (hl : d.lows.length ≤ B) (hpa : d.job.parts.length ≤ B) (hcm : c.members.length ≤ B) (hkey : c.key.length ≤ B) (hN : 10 * B + 300 ≤ N) :
    run tab prim glob N 4 [.agg d.cellsL, .agg c.cells] = some (.bool true, []) := by
  obtain ⟨n, rfl⟩ : ∃ n, N = n + 1 := ⟨N - 1, by omega⟩
  rw [enters (fn := c4) rfl]
  have := hd.opened
  have r1 := ref_ok (N := n) d (by omega) (by omega) (by omega)
  obtain ⟨b, r2⟩ := small_ok (N := n) d (by omega) (by omega)
  have r4 := awake_ok (n - 60)
  rw [show n - 60 + 60 = n by omega] at r4
  have r6 := dir19_ok (N := n) d (by omega) hd (by omega)
  cases b
  · simp only [c4, o4_1, o4_2, o4_3, o4_4, o4_5, o4_6, o4_7, o4_8, go_sem, Nat.reduceAdd, Nat.reduceMul, reduceIte, Nat.reduceLeDiff, Int.reduceLE, Int.reduceLT, Int.reduceToNat, r1, r2, r4]
  by_cases m1 : (c.members.length : Int) > 40
  · simp only [c4, o4_1, o4_2, o4_3, o4_4, o4_5, o4_6, o4_7, o4_8, go_sem, Nat.reduceAdd, Nat.reduceMul, reduceIte, Nat.reduceLeDiff, Int.reduceLE, Int.reduceLT, Int.reduceToNat, r1, r2, r4, m1, List.length_map]
  by_cases m2 : (c.key.length : Int) > 100
  · simp only [c4, o4_1, o4_2, o4_3, o4_4, o4_5, o4_6, o4_7, o4_8, go_sem, Nat.reduceAdd, Nat.reduceMul, reduceIte, Nat.reduceLeDiff, Int.reduceLE, Int.reduceLT, Int.reduceToNat, r1, r2, r4, m1, m2, List.length_map]
  have r7 := equal_ok (N := n) d (by omega) hd hc hl hpa (by omega)
  cases hr : d.right
  · have r5 := cmdBad_ok (N := n) d hr (by omega) hd c (by omega)
    rw [hr] at r6
    simp only [c4, o4_1, o4_2, o4_3, o4_4, o4_5, o4_6, o4_7, o4_8, go_sem, Nat.reduceAdd, Nat.reduceMul, reduceIte, Nat.reduceLeDiff, Int.reduceLE, Int.reduceLT, Int.reduceToNat, r1, r2, r4, r5, r6, r7, m1, m2, List.length_map, Int.reduceEq]
  · have hf := (d.fine_iff).1 hr
    rw [hr] at r6
    obtain ⟨x, e, ⟨r5, r8⟩, s1, s2, s3, s4⟩ := cmd_all (N := n) d hf hB hd hpa c hcm hkey (by omega)
    have r9 := ref_ok (N := n) x (by rw [s2]; omega) (by have := s1.opened; omega) (by have := s1.opened; rw [s2]; omega)
    have r10 := equal_ok (N := n) x (by omega) s1 (by rw [s2]; exact hc) (by rw [s3]; exact hl) s4 (by omega)
    simp only [c4, o4_1, o4_2, o4_3, o4_4, o4_5, o4_6, o4_7, o4_8, go_sem, Nat.reduceAdd, Nat.reduceMul, reduceIte, Nat.reduceLeDiff, Int.reduceLE, Int.reduceLT, Int.reduceToNat, r1, r2, r4, r5, r6, r8, r9, r10, m1, m2, List.length_map]
end Go.Proofs.YtefoleocbhkobaaGreatDoor
namespace Go.Proofs.YtefoleocbhkobaaGreatDoor
open Go Go.Ev Go.ChangeShapes Go.WideShapes Go.ChangeAt Go.RowKit
set_option linter.unusedSectionVars false
set_option linter.unusedSimpArgs false
set_option linter.unusedVariables false
def shCm : List Sh := [sI, sI, sI, sI, .str, .slice [sI]]
theorem cm_of (r : List PV) (h : FitL shCm r) : ∃ c : Cm, r = c.cells := by
  obtain ⟨_, _, rfl, g1, h1_⟩ := h.cons; obtain ⟨a, rfl⟩ := g1.i
  obtain ⟨_, _, rfl, g2, h2_⟩ := h1_.cons; obtain ⟨b, rfl⟩ := g2.i
  obtain ⟨_, _, rfl, g3, h3_⟩ := h2_.cons; obtain ⟨c, rfl⟩ := g3.i
  obtain ⟨_, _, rfl, g4, h4_⟩ := h3_.cons; obtain ⟨d, rfl⟩ := g4.i
  obtain ⟨_, _, rfl, g5, h5_⟩ := h4_.cons; obtain ⟨e, rfl⟩ := g5.s
  obtain ⟨_, _, rfl, g6, h6_⟩ := h5_.cons; obtain ⟨f, rfl⟩ := g6.rowsOf rowI int_of
  have := h6_.done; subst this
  exact ⟨⟨a, b, c, d, e, f⟩, rfl⟩
theorem cm_small {M : Nat} (c : Cm) (h : ∀ p ∈ c.cells, Bd M p) : c.members.length ≤ M ∧ c.key.length ≤ M := by
  simp only [Cm.cells, List.mem_cons, List.not_mem_nil, or_false, forall_eq_or_imp, forall_eq] at h
  obtain ⟨_, _, _, _, a5, a6⟩ := h
  exact ⟨a6.rows.1, a5.strs⟩
theorem shapes52 : shapes Tryz.prog 8 52 = some shCm := by kernel_rfl
def zCm : Value := .agg #[vI, vI, vI, vI, vS, vNil]
def zCmD {H : Type} : DataW H := .agg [lI, lI, lI, lI, lS, .nil]
set_option maxRecDepth 100000 in
theorem commands_contract (H : Type) (enc : TypeId × Value → H) (W : World) (base : Nat) (args : Array Value) (ds gs : List (DataW H)) (before : List MemPlace)
    (hval : ∀ (j : Nat) t v, Tryz.f4.params[j]? = some t → args[j]? = some v → Value.okWide Tryz.prog W .any base t v)
    (hW : DataW.Whole enc Tryz.prog Tryz.f4.params.toList Rows.directorCommandsSpec.vars false W args.toList ds gs before) (hk : Rows.uptoSmall H (ds ++ gs) = true) (hL : laidMetH Tryz.prog tables W) :
    Calls Tryz.prog 4 args W fun e W' => ∃ v, e = .returned v ∧ Rows.directorCommandsSpec.post enc Tryz.prog Tryz.f4 false true false false W args v W' := by
  have hW' := hW
  obtain ⟨p, q, hA0, hV, rfl, hfz, hnd⟩ := hW
  have hA : DataW.TrodAll enc Tryz.prog W 0 (fun _ => true) true Tryz.f4.params.toList args.toList ds p := hA0
  rw [Tryz.params4] at hA hval
  obtain ⟨v0, vs0, d0, ds0, p0, q0, hargs, rfl, rfl, h0, r0⟩ := trodAll_cons hA
  obtain ⟨v1, vs1, d1, ds1, p1, q1, rfl, rfl, rfl, h1, r1⟩ := trodAll_cons r0
  obtain ⟨rfl, rfl, rfl⟩ := trodAll_nil r1
  obtain rfl : args = #[v0, v1] := by cases args; simp_all
  obtain ⟨rfl, rfl⟩ := trodVars_none hV
  obtain ⟨f1, c1⟩ := arg_agg (n := 8) (l := shDr) Tryz.underlying36 shapes36 (hval 0 36 v0 rfl rfl) h0
  obtain ⟨f2, c2⟩ := arg_agg (n := 8) (l := shCm) Tryz.underlying52 shapes52 (hval 1 52 v1 rfl rfl) h1
  obtain ⟨d, hd⟩ := dr_of _ f1
  obtain ⟨c, hc⟩ := cm_of _ f2
  have hb := of_decide_eq_true hk
  simp only [List.append_nil, Rows.uptoBulkAll, Nat.add_zero] at hb
  have hB := bd_cells d0 (M := 1048576) (by omega)
  have hC := bd_cells d1 (M := 1048576) (by omega)
  rw [hd] at hB c1
  rw [hc] at hC c2
  obtain ⟨s1, s2, s3, s4, s5⟩ := dr_small d hB
  obtain ⟨s6, s7⟩ := cm_small c hC
  obtain ⟨N, hN⟩ : ∃ N, 10 * 1048576 + 300 ≤ N := ⟨_, Nat.le_refl _⟩
  have hcall := true_any (ans (commands_ok (N := N) d c (by omega) s1 s2 s3 s4 s6 s7 hN)) W #[v0, v1] (globs hL) (.cons _ _ [] _ _ [] c1 (.cons _ _ [] _ _ [] c2 .nil))
  simp only [List.append_nil] at hW'
  have hlt : ∀ x ∈ p0 ++ p1, x.block < W.heap.size := fun x hx => hW'.lt x (by simpa using hx)
  refine hcall.mono fun e W' ⟨he, hg⟩ => ?_
  subst he
  have hbel := below_of hg
  exact ⟨_, rfl, post_below (pa := p0 ++ p1) (pv := []) hW' hbel (fun _ _ _ => trodAll_cons_mk (shut_bool Tryz.underlying4 _) trodAll_mk0)
    (fun sp hsp => trodAll_cons_mk (WideElems.Trod_stays (sp' := sp) laidOut (by kernel_rfl) (of_decide_eq_true (by kernel_rfl)) h0 (fun x hx => hbel.same (hlt x (by simp [hx]))) (fun x hx => hsp x (by simp [hx])))
      (trodAll_mk1 (WideElems.Trod_stays (sp' := sp) laidOut (by kernel_rfl) (of_decide_eq_true (by kernel_rfl)) h1 (fun x hx => hbel.same (hlt x (by simp [hx]))) (fun x hx => hsp x (by simp [hx]))))) (fun _ _ => rfl) (by simp)
    (ok_one (by kernel_rfl) rfl (okWide_bool_mk Tryz.underlying4 _))⟩
set_option maxRecDepth 100000 in
theorem commands_lifted (os : Os) (started : os.Started) (H : Type) (enc : TypeId × Value → H) (F : Stop.Interp) :
    ReturnsInHanded {} Tryz.checked os 4 .any ((Rows.OpenSpec.upto Rows.directorCommandsSpec).preRow enc Tryz.prog Tryz.f4 Rows.directorCommandsUptoRow.domain false Rows.directorCommandsUptoRow.laid) (((Rows.OpenSpec.upto Rows.directorCommandsSpec).at F).post enc Tryz.prog Tryz.f4 false true false false) := by
  have hx : ∃ places, DataW.whole enc Tryz.prog ((laidWorld os).forCall (fun _ _ => 0) ⟨#[], #[zDr, zCm], []⟩).memory Tryz.f4.params.toList Rows.directorCommandsSpec.vars false #[zDr, zCm].toList 8 = some ([zDrD, zCmD], [], places) := ⟨[], by kernel_rfl⟩
  obtain ⟨places, hx⟩ := hx
  refine returnsInHanded_of_row (C := Tryz.checked) (s := Rows.OpenSpec.upto Rows.directorCommandsSpec) own started (by kernel_rfl) Tryz.func4
    (witness_row_at (enc := enc) (C := Tryz.checked) false (laidWorld os) #[zDr, zCm] (World.laidAll_os _ _ _) (by kernel_rfl) (by kernel_rfl) (by kernel_rfl)
      (OpenSpec.preRow_of_cond 8 hx (by kernel_rfl) (fun k hk => by cases hk; kernel_rfl) (by kernel_rfl) (laid_met os _))) ?_
  intro W base args ds gs before hval hW _ hcond _ hL _ _
  exact commands_contract H enc W base args ds gs before hval hW (hcond _ rfl) hL
theorem commands_said : Rows.DirectorCommandsUptoSaid :=
  OpenClaim.holds_of_cond 4 Tryz.f4 rfl rfl rfl rfl rfl rfl rfl ⟨rfl, rfl, rfl, rfl, rfl⟩ rfl rfl rfl rfl rfl (by kernel_rfl) Tryz.func4 (by kernel_rfl)
    (of_decide_eq_true (by kernel_rfl)) (by unfold Func.isWrapper; first | (rw [if_pos (by decide +kernel)]; kernel_rfl) | (rw [if_neg (by decide +kernel)]; exact ⟨rfl, rfl⟩))
    (fun os started H enc _ F => by rw [OpenClaim.pre_eq_preRow]; exact commands_lifted os started H enc F)
theorem commands_plain (f : FuncId) (fn : Func) (hf : Tryz.pinned.checked.prog.funcNamed "stratigraph/stratigraphlaw19.DirectorCommands" = some f) (hfn : Tryz.pinned.checked.prog.funcs[f]? = some fn) :
    false = Tryz.pinned.checked.prog.looks [] ∧ ∀ (j : Nat) t, fn.params[j]? = some t → Tryz.pinned.checked.prog.wantsStandIn t = false := by
  obtain rfl : f = 4 := Option.some.inj ((show Tryz.prog.funcNamed "stratigraph/stratigraphlaw19.DirectorCommands" = some 4 by kernel_rfl).symm.trans hf) |>.symm
  obtain rfl : fn = Tryz.f4 := (Option.some.inj (Tryz.func4.symm.trans hfn)).symm
  refine ⟨by kernel_rfl, fun j t ht => ?_⟩
  rw [Tryz.params4] at ht
  have ht' : t = 36 ∨ t = 52 := by simpa using Array.mem_of_getElem? ht
  rcases ht' with rfl | rfl
  · exact (show Tryz.prog.wantsStandIn 36 = false by kernel_rfl)
  · exact (show Tryz.prog.wantsStandIn 52 = false by kernel_rfl)
theorem commands_card : Rows.DirectorCommandsUptoCardSaid :=
  Claim7.holds_tied_plain_at .later [] _ _ _ _ commands_said (fun _ h => by cases h) (by kernel_rfl) (fun _ h => by cases h) directorCommandsUpto_row_tie rfl ⟨rfl, rfl⟩ (by kernel_rfl) rfl commands_plain (by kernel_rfl)
#print axioms commands_card
end Go.Proofs.YtefoleocbhkobaaGreatDoor

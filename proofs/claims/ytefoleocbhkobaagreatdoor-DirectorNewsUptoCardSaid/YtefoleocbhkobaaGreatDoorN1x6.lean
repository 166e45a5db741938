/-
  'stratigraphlaw19.DirectorNews' answers true, and leaves the input as it was, wherever what it reads is of bulk at most 1048576. The tables of package unicode/utf8 are as the program's text lays them (the card ties them).
-/
import Derived.Test.YtefoleocbhkobaaGreatDoorN1x5
import Derived.ChangeArms
import Derived.ChangeOld
import Derived.OpenShut
import Derived.Test.YtefoleocbhkobaaGreatDoorRows
import Derived.Deep.DeepHandedRow
import Derived.Lib.LaidTab
import Derived.Carry
import Derived.Test.YtefoleocbhkobaaGreatDoorCards
import Derived.Test.YtefoleocbhkobaaGreatDoorTie
import Derived.ProofKit
import Derived.LaidMore
import Derived.Lay
namespace Go.Proofs.YtefoleocbhkobaaGreatDoor
open Go Go.Ev
set_option linter.unusedSectionVars false
set_option linter.unusedSimpArgs false
set_option linter.unusedVariables false
def DrEnds (d : Dr) (x : Nat) (v : Bool) : Ex → Env → Heap → Prop := fun ex e h =>
  if v then ex = .exit x ∧ getT e 1 = .ptr 100001 0 ∧ hget h 100001 = some (.box d.cellsL) else ex = .ret ∧ getT e 2 = .bool false
def cellRight (c : Inf) (s : St) : Bool := rng 1 1099511627776 c.view && stores c.members && s.right
def cellsFrom : List Inf → List St → Bool
  | c :: cs, s :: ss => cellRight c s && cellsFrom cs ss
  | _, _ => true
theorem loop13a {n B : Nat} (d : Dr) (hB : B ≤ 1000000000) (hm0 : ∀ c ∈ d.cells, c.members.length ≤ B) (hN : B + 20 ≤ n) : ∀ (cs : List Inf) (ss : List St) (cp : List Inf) (sp : List St) (m : Nat) (env : Env) (H : Heap), d.cells = cp ++ cs → d.lows = sp ++ ss → cp.length = sp.length → cs.length = ss.length → cp.length + cs.length = 3 → cs.length + 1 ≤ m →
    evGh (.keep [1, 3] [100001]) env H = some ([(1, .ptr 100001 0), (3, .int .i64 cp.length)], [(100001, .box d.cellsL)]) →
    Ends (iter m (evCode ⟨run tab prim glob n, glob⟩ (iter n) b13_1) env H) (DrEnds d 0 (cellsFrom cs ss))
  | [], ss, cp, sp, m + 1, env, H, hc, hs, hl, hl2, h3, hm, hk => by
    have e1 : ¬ (cp.length : Int) < 3 := by simp at h3; omega
    rw [iter_step]
    generalize iter m (evCode ⟨run tab prim glob n, glob⟩ (iter n) b13_1) = g
    simp only [b13_1, ob13_1_1, ob13_1_2, ob13_1_3, ob13_1_4, hk, go_sem, Nat.reduceAdd, Nat.reduceMul, reduceIte, Nat.reduceLeDiff, Int.reduceLE, Int.reduceLT, Int.reduceToNat, e1, afterIt]
    refine Ends.of ?_
    cases ss <;> exact ⟨rfl, rfl, rfl⟩
  | c :: cs, [], cp, sp, m + 1, env, H, hc, hs, hl, hl2, h3, hm, hk => by simp at hl2
  | c :: cs, s :: ss, cp, sp, m + 1, env, H, hc, hs, hl, hl2, h3, hm, hk => by
    have e1 : (cp.length : Int) < 3 := by simp at h3; omega
    have e2 : (0 : Int) ≤ (cp.length : Int) := by omega
    have e3 : (d.cells.map infRow)[cp.length]? = some [.int .i64 c.view, .ro (c.members.map rowI), .bool c.whole] := by rw [hc]; simp [infRow]
    have e3' : (d.lows.map St.cells)[cp.length]? = some [.int .i64 s.wall, .int .i64 s.tick, .int .i64 s.node] := by rw [hs, hl]; simp [St.cells]
    have e4 : IntKind.i64.wrap ((cp.length : Int) + 1) = ((cp.length + 1 : Nat) : Int) := cast_add (by omega)
    have r1 := fits_ok (N := n) (by omega) c.view
    have hmb := hm0 c (by rw [hc]; simp)
    have r2 := stores19_ok (N := n) c.members (by omega) (by omega)
    have r3 : run tab prim glob n 38 [.agg [.int .i64 s.wall, .int .i64 s.tick, .int .i64 s.node]] = some (.bool s.right, []) := stampR05_ok (by omega) s
    have ih := fun (env2 : Env) (H2 : Heap) => loop13a (n := n) d hB hm0 hN cs ss (cp ++ [c]) (sp ++ [s]) m env2 H2 (by rw [hc]; simp) (by rw [hs]; simp) (by simp [hl]) (by simpa using hl2) (by simp at h3 ⊢; omega) (by simp at hm; omega)
    rw [iter_step]
    generalize iter m (evCode ⟨run tab prim glob n, glob⟩ (iter n) b13_1) = g at ih ⊢
    simp only [Dr.cellsL, Jb.cells, List.cons_append, List.nil_append] at hk ih
    have hf : rng 1 1099511627776 c.view = (decide (1 ≤ c.view) && decide (c.view ≤ 1099511627776)) := rfl
    have hf0 : 1 ≤ c.view → rng 0 1099511627776 c.view = decide (c.view ≤ 1099511627776) := fun h => by
      unfold rng
      rw [decide_eq_true (show 0 ≤ c.view by omega), Bool.true_and]
    by_cases k1 : 1 ≤ c.view
    case neg =>
      simp only [b13_1, ob13_1_1, ob13_1_2, ob13_1_3, ob13_1_4, hk, go_sem, Nat.reduceAdd, Nat.reduceMul, reduceIte, Nat.reduceLeDiff, Int.reduceLE, Int.reduceLT, Int.reduceToNat, e1, e2, e3, e3', e4, afterIt, cellsFrom, cellRight, hf, k1, Int.not_le.1 k1]
      exact Ends.of ⟨rfl, rfl⟩
    rw [hf0 k1] at r1
    have k1' := Int.not_lt.2 k1
    by_cases h1_ : c.view ≤ 1099511627776
    · by_cases h2_ : stores c.members = true
      · by_cases h3_ : s.right = true
        · simp only [go_sem, Nat.reduceAdd, Nat.reduceMul, reduceIte, Nat.reduceLeDiff, Int.reduceLE, Int.reduceLT, Int.reduceToNat, b13_1, ob13_1_1, ob13_1_2, ob13_1_3, ob13_1_4, hk, e1, e2, e3, e3', e4, r1, r2, r3, afterIt, cellsFrom, cellRight, hf, k1, k1', h1_, Int.not_lt.2 h1_, h2_, h3_]
          refine ih _ _ ?_
          rw [List.length_append]; rfl
        · simp only [go_sem, Nat.reduceAdd, Nat.reduceMul, reduceIte, Nat.reduceLeDiff, Int.reduceLE, Int.reduceLT, Int.reduceToNat, b13_1, ob13_1_1, ob13_1_2, ob13_1_3, ob13_1_4, hk, e1, e2, e3, e3', e4, r1, r2, r3, afterIt, cellsFrom, cellRight, hf, k1, k1', h1_, Int.not_lt.2 h1_, h2_, h3_]
          exact Ends.of ⟨rfl, rfl⟩
      · simp only [go_sem, Nat.reduceAdd, Nat.reduceMul, reduceIte, Nat.reduceLeDiff, Int.reduceLE, Int.reduceLT, Int.reduceToNat, b13_1, ob13_1_1, ob13_1_2, ob13_1_3, ob13_1_4, hk, e1, e2, e3, e3', e4, r1, r2, r3, afterIt, cellsFrom, cellRight, hf, k1, k1', h1_, Int.not_lt.2 h1_, h2_]
        exact Ends.of ⟨rfl, rfl⟩
    · simp only [go_sem, Nat.reduceAdd, Nat.reduceMul, reduceIte, Nat.reduceLeDiff, Int.reduceLE, Int.reduceLT, Int.reduceToNat, b13_1, ob13_1_1, ob13_1_2, ob13_1_3, ob13_1_4, hk, e1, e2, e3, e3', e4, r1, r2, r3, afterIt, cellsFrom, cellRight, hf, k1, k1', h1_, Int.not_le.1 h1_]
      exact Ends.of ⟨rfl, rfl⟩
end Go.Proofs.YtefoleocbhkobaaGreatDoor
namespace Go.Proofs.YtefoleocbhkobaaGreatDoor
open Go Go.Ev
set_option linter.unusedSectionVars false
set_option linter.unusedSimpArgs false
set_option linter.unusedVariables false
def DrEnds12 (d : Dr) (x : Nat) (v : Bool) : Ex → Env → Heap → Prop := fun ex e h =>
  if v then ex = .exit x ∧ getT e 1 = .ptr 100001 0 ∧ hget h 100001 = some (.box d.cellsL) ∧ hget h 100066 = none else ex = .ret ∧ getT e 2 = .bool false
theorem loop12a {n B : Nat} (d : Dr) (hB : B ≤ 1000000000) (hm0 : ∀ c ∈ d.cells, c.members.length ≤ B) (hN : B + 20 ≤ n) : ∀ (cs : List Inf) (ss : List St) (cp : List Inf) (sp : List St) (m : Nat) (env : Env) (H : Heap), d.cells = cp ++ cs → d.lows = sp ++ ss → cp.length = sp.length → cs.length = ss.length → cp.length + cs.length = 3 → cs.length + 1 ≤ m →
    evGh (.keep [1, 57] [100001]) env H = some ([(1, .ptr 100001 0), (57, .int .i64 cp.length)], [(100001, .box d.cellsL)]) →
    Ends (iter m (evCode ⟨run tab prim glob n, glob⟩ (iter n) b12_1) env H) (DrEnds12 d 0 (cellsFrom cs ss))
  | [], ss, cp, sp, m + 1, env, H, hc, hs, hl, hl2, h3, hm, hk => by
    have e1 : ¬ (cp.length : Int) < 3 := by simp at h3; omega
    rw [iter_step]
    generalize iter m (evCode ⟨run tab prim glob n, glob⟩ (iter n) b12_1) = g
    simp only [b12_1, ob12_1_1, ob12_1_2, ob12_1_3, ob12_1_4, ob12_1_5, hk, go_sem, Nat.reduceAdd, Nat.reduceMul, reduceIte, Nat.reduceLeDiff, Int.reduceLE, Int.reduceLT, Int.reduceToNat, e1, afterIt]
    refine Ends.of ?_
    cases ss <;> exact ⟨rfl, rfl, rfl, rfl⟩
  | c :: cs, [], cp, sp, m + 1, env, H, hc, hs, hl, hl2, h3, hm, hk => by simp at hl2
  | c :: cs, s :: ss, cp, sp, m + 1, env, H, hc, hs, hl, hl2, h3, hm, hk => by
    have e1 : (cp.length : Int) < 3 := by simp at h3; omega
    have e2 : (0 : Int) ≤ (cp.length : Int) := by omega
    have e3 : (d.cells.map infRow)[cp.length]? = some [.int .i64 c.view, .ro (c.members.map rowI), .bool c.whole] := by rw [hc]; simp [infRow]
    have e3' : (d.lows.map St.cells)[cp.length]? = some [.int .i64 s.wall, .int .i64 s.tick, .int .i64 s.node] := by rw [hs, hl]; simp [St.cells]
    have e4 : IntKind.i64.wrap ((cp.length : Int) + 1) = ((cp.length + 1 : Nat) : Int) := cast_add (by omega)
    have r1 : run tab prim glob n 33 [.int .i64 1, .ro [[.int .i64 c.view]]] = some (.bool (allFrom 1 [c.view]), []) := from_ok (N := n) 1 [c.view] (by simp) (by simp; omega)
    have hmb := hm0 c (by rw [hc]; simp)
    have r2 := stores_ok (N := n) c.members (by omega) (by omega)
    have r3 : run tab prim glob n 31 [.agg [.int .i64 s.wall, .int .i64 s.tick, .int .i64 s.node]] = some (.bool s.right, []) := stampR_ok (by omega) s
    have ih := fun (env2 : Env) (H2 : Heap) => loop12a (n := n) d hB hm0 hN cs ss (cp ++ [c]) (sp ++ [s]) m env2 H2 (by rw [hc]; simp) (by rw [hs]; simp) (by simp [hl]) (by simpa using hl2) (by simp at h3 ⊢; omega) (by simp at hm; omega)
    rw [iter_step]
    generalize iter m (evCode ⟨run tab prim glob n, glob⟩ (iter n) b12_1) = g at ih ⊢
    simp only [Dr.cellsL, Jb.cells, List.cons_append, List.nil_append] at hk ih
    have hf : allFrom 1 [c.view] = rng 1 1099511627776 c.view := by simp [allFrom]
    rw [hf] at r1
    by_cases h1_ : rng 1 1099511627776 c.view = true
    · by_cases h2_ : stores c.members = true
      · by_cases h3_ : s.right = true
        · simp only [go_sem, Nat.reduceAdd, Nat.reduceMul, reduceIte, Nat.reduceLeDiff, Int.reduceLE, Int.reduceLT, Int.reduceToNat, b12_1, ob12_1_1, ob12_1_2, ob12_1_3, ob12_1_4, ob12_1_5, hk, e1, e2, e3, e3', e4, r1, r2, r3, afterIt, cellsFrom, cellRight, h1_, h2_, h3_]
          refine ih _ _ ?_
          rw [List.length_append]; rfl
        · simp only [go_sem, Nat.reduceAdd, Nat.reduceMul, reduceIte, Nat.reduceLeDiff, Int.reduceLE, Int.reduceLT, Int.reduceToNat, b12_1, ob12_1_1, ob12_1_2, ob12_1_3, ob12_1_4, ob12_1_5, hk, e1, e2, e3, e3', e4, r1, r2, r3, afterIt, cellsFrom, cellRight, h1_, h2_, h3_]
          exact Ends.of ⟨rfl, rfl⟩
      · simp only [go_sem, Nat.reduceAdd, Nat.reduceMul, reduceIte, Nat.reduceLeDiff, Int.reduceLE, Int.reduceLT, Int.reduceToNat, b12_1, ob12_1_1, ob12_1_2, ob12_1_3, ob12_1_4, ob12_1_5, hk, e1, e2, e3, e3', e4, r1, r2, r3, afterIt, cellsFrom, cellRight, h1_, h2_]
        exact Ends.of ⟨rfl, rfl⟩
    · simp only [go_sem, Nat.reduceAdd, Nat.reduceMul, reduceIte, Nat.reduceLeDiff, Int.reduceLE, Int.reduceLT, Int.reduceToNat, b12_1, ob12_1_1, ob12_1_2, ob12_1_3, ob12_1_4, ob12_1_5, hk, e1, e2, e3, e3', e4, r1, r2, r3, afterIt, cellsFrom, cellRight, h1_]
      exact Ends.of ⟨rfl, rfl⟩
end Go.Proofs.YtefoleocbhkobaaGreatDoor
namespace Go.Proofs.YtefoleocbhkobaaGreatDoor
open Go Go.Ev
set_option linter.unusedSectionVars false
set_option linter.unusedSimpArgs false
set_option linter.unusedVariables false
def rowsFrom (last : Int) : List Rw → Bool
  | [] => true
  | r :: t => decide (last < r.client) && decide (r.client ≤ 8) && (rng 0 1099511627776 r.req && rng 0 1099511627776 r.lease) && r.tm.right && decide (0 ≤ r.err) && decide (r.err ≤ 16) && rowsFrom r.client t
theorem loop12b {n : Nat} (d : Dr) (hl : d.opened.length ≤ 2000000) (hN : 20 ≤ n) : ∀ (rest pre : List Rw) (last : Int) (m : Nat) (env : Env) (H : Heap), d.opened = pre ++ rest → rest.length + 1 ≤ m →
    evGh (.keep [4, 90, 91, 92] [100001, 100066]) env H = some ([(4, .int .i64 last), (90, .ro (d.opened.map Rw.cells)), (91, .int .i64 d.opened.length), (92, .int .i64 pre.length)], [(100001, .box d.cellsL)]) →
    Ends (iter m (evCode ⟨run tab prim glob n, glob⟩ (iter n) b12_2) env H) (fun ex e _ => if rowsFrom last rest then ex = .exit 2 else ex = .ret ∧ getT e 2 = .bool false)
  | [], pre, last, m + 1, env, H, hp, hm, hk => by
    have e1 : pre.length = d.opened.length := by rw [hp]; simp
    rw [iter_step]
    generalize iter m (evCode ⟨run tab prim glob n, glob⟩ (iter n) b12_2) = g
    simp only [b12_2, ob12_2_1, ob12_2_2, ob12_2_3, ob12_2_4, ob12_2_5, ob12_2_6, hk, go_sem, Nat.reduceAdd, Nat.reduceMul, reduceIte, Nat.reduceLeDiff, Int.reduceLE, Int.reduceLT, Int.reduceToNat, e1, Int.lt_irrefl, afterIt]
    exact Ends.of rfl
  | x :: rest, pre, last, m + 1, env, H, hp, hm, hk => by
    have e0 : pre.length < d.opened.length := by rw [hp]; simp
    have e1 : (pre.length : Int) < (d.opened.length : Int) := by omega
    have e2 : (0 : Int) ≤ (pre.length : Int) := by omega
    have e3 : (d.opened.map Rw.cells)[pre.length]? = some [.int .i64 x.client, .int .i64 x.req, .int .i64 x.lease, .int .i64 x.tm.wall, .int .i64 x.tm.tick, .int .i64 x.tm.node, .int .i64 x.err] := by rw [hp]; simp [Rw.cells]
    have e4 : IntKind.i64.wrap ((pre.length : Int) + 1) = ((pre.length + 1 : Nat) : Int) := cast_add (by omega)
    have r1 : run tab prim glob n 33 [.int .i64 0, .ro [[.int .i64 x.req], [.int .i64 x.lease]]] = some (.bool (allFrom 0 [x.req, x.lease]), []) := from_ok (N := n) 0 [x.req, x.lease] (by simp) (by simp; omega)
    have hf : allFrom 0 [x.req, x.lease] = (rng 0 1099511627776 x.req && rng 0 1099511627776 x.lease) := by simp [allFrom]
    rw [hf] at r1
    have r2 : run tab prim glob n 31 [.agg [.int .i64 x.tm.wall, .int .i64 x.tm.tick, .int .i64 x.tm.node]] = some (.bool x.tm.right, []) := stampR_ok (by omega) x.tm
    have ih := fun (env2 : Env) (H2 : Heap) => loop12b (n := n) d hl hN rest (pre ++ [x]) x.client m env2 H2 (by rw [hp]; simp) (by simp at hm; omega)
    have hs : rowsFrom last (x :: rest) = (decide (last < x.client) && decide (x.client ≤ 8) && (rng 0 1099511627776 x.req && rng 0 1099511627776 x.lease) && x.tm.right && decide (0 ≤ x.err) && decide (x.err ≤ 16) && rowsFrom x.client rest) := rfl
    rw [hs, iter_step]
    generalize iter m (evCode ⟨run tab prim glob n, glob⟩ (iter n) b12_2) = g at ih ⊢
    by_cases h1_ : last < x.client
    · by_cases h2_ : x.client ≤ 8
      · by_cases h3_ : (rng 0 1099511627776 x.req && rng 0 1099511627776 x.lease) = true
        · by_cases h4_ : x.tm.right = true
          · by_cases h5_ : 0 ≤ x.err
            · by_cases h6_ : x.err ≤ 16
              · simp only [go_sem, Nat.reduceAdd, Nat.reduceMul, reduceIte, Nat.reduceLeDiff, Int.reduceLE, Int.reduceLT, Int.reduceToNat, b12_2, ob12_2_1, ob12_2_2, ob12_2_3, ob12_2_4, ob12_2_5, ob12_2_6, hk, e1, e2, e3, e4, r1, r2, afterIt, h1_, Int.not_le.2 h1_, h2_, Int.not_lt.2 h2_, h3_, h4_, h5_, Int.not_lt.2 h5_, h6_, Int.not_lt.2 h6_]
                refine ih _ _ ?_
                rw [List.length_append]; rfl
              · simp only [go_sem, Nat.reduceAdd, Nat.reduceMul, reduceIte, Nat.reduceLeDiff, Int.reduceLE, Int.reduceLT, Int.reduceToNat, b12_2, ob12_2_1, ob12_2_2, ob12_2_3, ob12_2_4, ob12_2_5, ob12_2_6, hk, e1, e2, e3, e4, r1, r2, afterIt, h1_, Int.not_le.2 h1_, h2_, Int.not_lt.2 h2_, h3_, h4_, h5_, Int.not_lt.2 h5_, h6_, Int.not_le.1 h6_]
                exact Ends.of ⟨rfl, rfl⟩
            · simp only [go_sem, Nat.reduceAdd, Nat.reduceMul, reduceIte, Nat.reduceLeDiff, Int.reduceLE, Int.reduceLT, Int.reduceToNat, b12_2, ob12_2_1, ob12_2_2, ob12_2_3, ob12_2_4, ob12_2_5, ob12_2_6, hk, e1, e2, e3, e4, r1, r2, afterIt, h1_, Int.not_le.2 h1_, h2_, Int.not_lt.2 h2_, h3_, h4_, h5_, Int.not_le.1 h5_]
              exact Ends.of ⟨rfl, rfl⟩
          · simp only [go_sem, Nat.reduceAdd, Nat.reduceMul, reduceIte, Nat.reduceLeDiff, Int.reduceLE, Int.reduceLT, Int.reduceToNat, b12_2, ob12_2_1, ob12_2_2, ob12_2_3, ob12_2_4, ob12_2_5, ob12_2_6, hk, e1, e2, e3, e4, r1, r2, afterIt, h1_, Int.not_le.2 h1_, h2_, Int.not_lt.2 h2_, h3_, h4_]
            exact Ends.of ⟨rfl, rfl⟩
        · simp only [go_sem, Nat.reduceAdd, Nat.reduceMul, reduceIte, Nat.reduceLeDiff, Int.reduceLE, Int.reduceLT, Int.reduceToNat, b12_2, ob12_2_1, ob12_2_2, ob12_2_3, ob12_2_4, ob12_2_5, ob12_2_6, hk, e1, e2, e3, e4, r1, r2, afterIt, h1_, Int.not_le.2 h1_, h2_, Int.not_lt.2 h2_, h3_]
          exact Ends.of ⟨rfl, rfl⟩
      · simp only [go_sem, Nat.reduceAdd, Nat.reduceMul, reduceIte, Nat.reduceLeDiff, Int.reduceLE, Int.reduceLT, Int.reduceToNat, b12_2, ob12_2_1, ob12_2_2, ob12_2_3, ob12_2_4, ob12_2_5, ob12_2_6, hk, e1, e2, e3, e4, r1, r2, afterIt, h1_, Int.not_le.2 h1_, h2_, Int.not_le.1 h2_]
        exact Ends.of ⟨rfl, rfl⟩
    · simp only [go_sem, Nat.reduceAdd, Nat.reduceMul, reduceIte, Nat.reduceLeDiff, Int.reduceLE, Int.reduceLT, Int.reduceToNat, b12_2, ob12_2_1, ob12_2_2, ob12_2_3, ob12_2_4, ob12_2_5, ob12_2_6, hk, e1, e2, e3, e4, r1, r2, afterIt, h1_, Int.not_lt.1 h1_]
      exact Ends.of ⟨rfl, rfl⟩
end Go.Proofs.YtefoleocbhkobaaGreatDoor
namespace Go.Proofs.YtefoleocbhkobaaGreatDoor
open Go Go.Ev
set_option linter.unusedSectionVars false
set_option linter.unusedSimpArgs false
set_option linter.unusedVariables false
set_option maxRecDepth 100000 in
set_option maxHeartbeats 16000000 in
theorem loop13b {n : Nat} (d : Dr) (hl : d.opened.length ≤ 2000000) (hN : 20 ≤ n) : ∀ (rest pre : List Rw) (last : Int) (m : Nat) (env : Env) (H : Heap), d.opened = pre ++ rest → 0 ≤ last → (pre = [] ∧ last = 0 ∨ ∃ p0 y, pre = p0 ++ [y] ∧ last = y.client) → rest.length + 1 ≤ m →
    evGh (.keep [1, 4] [100001]) env H = some ([(1, .ptr 100001 0), (4, .int .i64 pre.length)], [(100001, .box d.cellsL)]) →
    Ends (iter m (evCode ⟨run tab prim glob n, glob⟩ (iter n) b13_2) env H) (fun ex e _ => if rowsFrom last rest then ex = .exit 2 else ex = .ret ∧ getT e 2 = .bool false)
  | [], pre, last, m + 1, env, H, hp, h0, hlast, hm, hk => by
    have e1 : pre.length = d.opened.length := by rw [hp]; simp
    rw [iter_step]
    generalize iter m (evCode ⟨run tab prim glob n, glob⟩ (iter n) b13_2) = g
    simp only [Dr.cellsL, Jb.cells, List.cons_append, List.nil_append] at hk
    simp only [b13_2, ob13_2_1, ob13_2_2, ob13_2_3, ob13_2_4, ob13_2_5, hk, go_sem, Nat.reduceAdd, Nat.reduceMul, reduceIte, Nat.reduceLeDiff, Int.reduceLE, Int.reduceLT, Int.reduceToNat, e1, List.length_map, Int.lt_irrefl, afterIt]
    exact Ends.of rfl
  | x :: rest, pre, last, m + 1, env, H, hp, h0, hlast, hm, hk => by
    have e0 : pre.length < d.opened.length := by rw [hp]; simp
    have e1 : (pre.length : Int) < (d.opened.length : Int) := by omega
    have e2 : (0 : Int) ≤ (pre.length : Int) := by omega
    have e3 : (d.opened.map Rw.cells)[pre.length]? = some [.int .i64 x.client, .int .i64 x.req, .int .i64 x.lease, .int .i64 x.tm.wall, .int .i64 x.tm.tick, .int .i64 x.tm.node, .int .i64 x.err] := by rw [hp]; simp [Rw.cells]
    have e4 : IntKind.i64.wrap ((pre.length : Int) + 1) = ((pre.length + 1 : Nat) : Int) := cast_add (by omega)
    have r1 := fun x => fits_ok (N := n) (by omega) x
    have r2 : run tab prim glob n 38 [.agg [.int .i64 x.tm.wall, .int .i64 x.tm.tick, .int .i64 x.tm.node]] = some (.bool x.tm.right, []) := stampR05_ok (by omega) x.tm
    have ih := fun (env2 : Env) (H2 : Heap) (h0 : 0 ≤ x.client) => loop13b (n := n) d hl hN rest (pre ++ [x]) x.client m env2 H2 (by rw [hp]; simp) h0 (.inr ⟨pre, x, rfl, rfl⟩) (by simp at hm; omega)
    have hs : rowsFrom last (x :: rest) = (decide (last < x.client) && decide (x.client ≤ 8) && (rng 0 1099511627776 x.req && rng 0 1099511627776 x.lease) && x.tm.right && decide (0 ≤ x.err) && decide (x.err ≤ 16) && rowsFrom x.client rest) := rfl
    rw [hs, iter_step]
    generalize iter m (evCode ⟨run tab prim glob n, glob⟩ (iter n) b13_2) = g at ih ⊢
    simp only [Dr.cellsL, Jb.cells, List.cons_append, List.nil_append] at hk ih
    rcases hlast with ⟨rfl, rfl⟩ | ⟨p0, y, rfl, rfl⟩
    · have hk := hk
      rw [show (([] : List Rw).length : Int) = 0 from rfl] at hk e1
      have e3 : (d.opened.map Rw.cells)[0]? = _ := e3
      have e4 : IntKind.i64.wrap ((0 : Int) + 1) = 1 := by decide
      clear e2
      have e2 : (0 : Int) ≤ 0 := by decide
      have hq : ((0 : Int) < x.client) = (1 ≤ x.client) := by rw [eq_iff_iff]; omega
      by_cases h1_ : 1 ≤ x.client
      · by_cases h2_ : x.client ≤ 8
        · by_cases h3_ : rng 0 1099511627776 x.req = true
          · by_cases h4_ : rng 0 1099511627776 x.lease = true
            · by_cases h5_ : x.tm.right = true
              · by_cases h6_ : 0 ≤ x.err
                · by_cases h7_ : x.err ≤ 16
                  · simp only [go_sem, Nat.reduceAdd, Nat.reduceMul, reduceIte, Nat.reduceLeDiff, Int.reduceLE, Int.reduceLT, Int.reduceToNat, b13_2, ob13_2_1, ob13_2_2, ob13_2_3, ob13_2_4, ob13_2_5, hk, e1, e2, e3, e4, r1, r2, List.length_map, afterIt, hq, Int.lt_irrefl, h1_, Int.not_lt.2 h1_, h2_, Int.not_lt.2 h2_, h3_, h4_, h5_, h6_, Int.not_lt.2 h6_, h7_, Int.not_lt.2 h7_]
                    refine ih _ _ (by omega) ?_
                    rfl
                  · simp only [go_sem, Nat.reduceAdd, Nat.reduceMul, reduceIte, Nat.reduceLeDiff, Int.reduceLE, Int.reduceLT, Int.reduceToNat, b13_2, ob13_2_1, ob13_2_2, ob13_2_3, ob13_2_4, ob13_2_5, hk, e1, e2, e3, e4, r1, r2, List.length_map, afterIt, hq, Int.lt_irrefl, h1_, Int.not_lt.2 h1_, h2_, Int.not_lt.2 h2_, h3_, h4_, h5_, h6_, Int.not_lt.2 h6_, h7_, Int.not_le.1 h7_]
                    exact Ends.of ⟨rfl, rfl⟩
                · simp only [go_sem, Nat.reduceAdd, Nat.reduceMul, reduceIte, Nat.reduceLeDiff, Int.reduceLE, Int.reduceLT, Int.reduceToNat, b13_2, ob13_2_1, ob13_2_2, ob13_2_3, ob13_2_4, ob13_2_5, hk, e1, e2, e3, e4, r1, r2, List.length_map, afterIt, hq, Int.lt_irrefl, h1_, Int.not_lt.2 h1_, h2_, Int.not_lt.2 h2_, h3_, h4_, h5_, h6_, Int.not_le.1 h6_]
                  exact Ends.of ⟨rfl, rfl⟩
              · simp only [go_sem, Nat.reduceAdd, Nat.reduceMul, reduceIte, Nat.reduceLeDiff, Int.reduceLE, Int.reduceLT, Int.reduceToNat, b13_2, ob13_2_1, ob13_2_2, ob13_2_3, ob13_2_4, ob13_2_5, hk, e1, e2, e3, e4, r1, r2, List.length_map, afterIt, hq, Int.lt_irrefl, h1_, Int.not_lt.2 h1_, h2_, Int.not_lt.2 h2_, h3_, h4_, h5_]
                exact Ends.of ⟨rfl, rfl⟩
            · simp only [go_sem, Nat.reduceAdd, Nat.reduceMul, reduceIte, Nat.reduceLeDiff, Int.reduceLE, Int.reduceLT, Int.reduceToNat, b13_2, ob13_2_1, ob13_2_2, ob13_2_3, ob13_2_4, ob13_2_5, hk, e1, e2, e3, e4, r1, r2, List.length_map, afterIt, hq, Int.lt_irrefl, h1_, Int.not_lt.2 h1_, h2_, Int.not_lt.2 h2_, h3_, h4_]
              exact Ends.of ⟨rfl, rfl⟩
          · simp only [go_sem, Nat.reduceAdd, Nat.reduceMul, reduceIte, Nat.reduceLeDiff, Int.reduceLE, Int.reduceLT, Int.reduceToNat, b13_2, ob13_2_1, ob13_2_2, ob13_2_3, ob13_2_4, ob13_2_5, hk, e1, e2, e3, e4, r1, r2, List.length_map, afterIt, hq, Int.lt_irrefl, h1_, Int.not_lt.2 h1_, h2_, Int.not_lt.2 h2_, h3_]
            exact Ends.of ⟨rfl, rfl⟩
        · simp only [go_sem, Nat.reduceAdd, Nat.reduceMul, reduceIte, Nat.reduceLeDiff, Int.reduceLE, Int.reduceLT, Int.reduceToNat, b13_2, ob13_2_1, ob13_2_2, ob13_2_3, ob13_2_4, ob13_2_5, hk, e1, e2, e3, e4, r1, r2, List.length_map, afterIt, hq, Int.lt_irrefl, h1_, Int.not_lt.2 h1_, h2_, Int.not_le.1 h2_]
          exact Ends.of ⟨rfl, rfl⟩
      · simp only [go_sem, Nat.reduceAdd, Nat.reduceMul, reduceIte, Nat.reduceLeDiff, Int.reduceLE, Int.reduceLT, Int.reduceToNat, b13_2, ob13_2_1, ob13_2_2, ob13_2_3, ob13_2_4, ob13_2_5, hk, e1, e2, e3, e4, r1, r2, List.length_map, afterIt, hq, Int.lt_irrefl, h1_, Int.not_le.1 h1_]
        exact Ends.of ⟨rfl, rfl⟩
    · have e5 : (0 : Int) < ((p0 ++ [y]).length : Int) := by simp <;> omega
      have e6 : IntKind.i64.wrap (((p0 ++ [y]).length : Int) - 1) = (p0.length : Int) := by
        rw [IntWalk.i64_in _ (by omega)]; simp
      have e7 : (0 : Int) ≤ (p0.length : Int) := by omega
      have e8 : (d.opened.map Rw.cells)[p0.length]? = some [.int .i64 y.client, .int .i64 y.req, .int .i64 y.lease, .int .i64 y.tm.wall, .int .i64 y.tm.tick, .int .i64 y.tm.node, .int .i64 y.err] := by rw [hp]; simp [Rw.cells]
      by_cases h1 : 1 ≤ x.client
      case neg =>
        have hq : ¬ y.client < x.client := by omega
        simp only [b13_2, ob13_2_1, ob13_2_2, ob13_2_3, ob13_2_4, ob13_2_5, hk, go_sem, Nat.reduceAdd, Nat.reduceMul, reduceIte, Nat.reduceLeDiff, Int.reduceLE, Int.reduceLT, Int.reduceToNat, e1, e2, e3, e4, e5, e6, e7, e8, r1, r2, List.length_map, afterIt, h1, Int.not_le.1 h1, hq]
        exact Ends.of ⟨rfl, rfl⟩
      have h1' := Int.not_lt.2 h1
      by_cases h1_ : x.client ≤ 8
      · by_cases h2_ : y.client < x.client
        · by_cases h3_ : rng 0 1099511627776 x.req = true
          · by_cases h4_ : rng 0 1099511627776 x.lease = true
            · by_cases h5_ : x.tm.right = true
              · by_cases h6_ : 0 ≤ x.err
                · by_cases h7_ : x.err ≤ 16
                  · simp only [go_sem, Nat.reduceAdd, Nat.reduceMul, reduceIte, Nat.reduceLeDiff, Int.reduceLE, Int.reduceLT, Int.reduceToNat, b13_2, ob13_2_1, ob13_2_2, ob13_2_3, ob13_2_4, ob13_2_5, hk, e1, e2, e3, e4, e5, e6, e7, e8, r1, r2, List.length_map, afterIt, h1, h1', h1_, Int.not_lt.2 h1_, h2_, Int.not_le.2 h2_, h3_, h4_, h5_, h6_, Int.not_lt.2 h6_, h7_, Int.not_lt.2 h7_]
                    refine ih _ _ (by omega) ?_
                    rw [show (p0 ++ [y] ++ [x]).length = (p0 ++ [y]).length + 1 from List.length_append]; rfl
                  · simp only [go_sem, Nat.reduceAdd, Nat.reduceMul, reduceIte, Nat.reduceLeDiff, Int.reduceLE, Int.reduceLT, Int.reduceToNat, b13_2, ob13_2_1, ob13_2_2, ob13_2_3, ob13_2_4, ob13_2_5, hk, e1, e2, e3, e4, e5, e6, e7, e8, r1, r2, List.length_map, afterIt, h1, h1', h1_, Int.not_lt.2 h1_, h2_, Int.not_le.2 h2_, h3_, h4_, h5_, h6_, Int.not_lt.2 h6_, h7_, Int.not_le.1 h7_]
                    exact Ends.of ⟨rfl, rfl⟩
                · simp only [go_sem, Nat.reduceAdd, Nat.reduceMul, reduceIte, Nat.reduceLeDiff, Int.reduceLE, Int.reduceLT, Int.reduceToNat, b13_2, ob13_2_1, ob13_2_2, ob13_2_3, ob13_2_4, ob13_2_5, hk, e1, e2, e3, e4, e5, e6, e7, e8, r1, r2, List.length_map, afterIt, h1, h1', h1_, Int.not_lt.2 h1_, h2_, Int.not_le.2 h2_, h3_, h4_, h5_, h6_, Int.not_le.1 h6_]
                  exact Ends.of ⟨rfl, rfl⟩
              · simp only [go_sem, Nat.reduceAdd, Nat.reduceMul, reduceIte, Nat.reduceLeDiff, Int.reduceLE, Int.reduceLT, Int.reduceToNat, b13_2, ob13_2_1, ob13_2_2, ob13_2_3, ob13_2_4, ob13_2_5, hk, e1, e2, e3, e4, e5, e6, e7, e8, r1, r2, List.length_map, afterIt, h1, h1', h1_, Int.not_lt.2 h1_, h2_, Int.not_le.2 h2_, h3_, h4_, h5_]
                exact Ends.of ⟨rfl, rfl⟩
            · simp only [go_sem, Nat.reduceAdd, Nat.reduceMul, reduceIte, Nat.reduceLeDiff, Int.reduceLE, Int.reduceLT, Int.reduceToNat, b13_2, ob13_2_1, ob13_2_2, ob13_2_3, ob13_2_4, ob13_2_5, hk, e1, e2, e3, e4, e5, e6, e7, e8, r1, r2, List.length_map, afterIt, h1, h1', h1_, Int.not_lt.2 h1_, h2_, Int.not_le.2 h2_, h3_, h4_]
              exact Ends.of ⟨rfl, rfl⟩
          · simp only [go_sem, Nat.reduceAdd, Nat.reduceMul, reduceIte, Nat.reduceLeDiff, Int.reduceLE, Int.reduceLT, Int.reduceToNat, b13_2, ob13_2_1, ob13_2_2, ob13_2_3, ob13_2_4, ob13_2_5, hk, e1, e2, e3, e4, e5, e6, e7, e8, r1, r2, List.length_map, afterIt, h1, h1', h1_, Int.not_lt.2 h1_, h2_, Int.not_le.2 h2_, h3_]
            exact Ends.of ⟨rfl, rfl⟩
        · simp only [go_sem, Nat.reduceAdd, Nat.reduceMul, reduceIte, Nat.reduceLeDiff, Int.reduceLE, Int.reduceLT, Int.reduceToNat, b13_2, ob13_2_1, ob13_2_2, ob13_2_3, ob13_2_4, ob13_2_5, hk, e1, e2, e3, e4, e5, e6, e7, e8, r1, r2, List.length_map, afterIt, h1, h1', h1_, Int.not_lt.2 h1_, h2_, Int.not_lt.1 h2_]
          exact Ends.of ⟨rfl, rfl⟩
      · simp only [go_sem, Nat.reduceAdd, Nat.reduceMul, reduceIte, Nat.reduceLeDiff, Int.reduceLE, Int.reduceLT, Int.reduceToNat, b13_2, ob13_2_1, ob13_2_2, ob13_2_3, ob13_2_4, ob13_2_5, hk, e1, e2, e3, e4, e5, e6, e7, e8, r1, r2, List.length_map, afterIt, h1, h1', h1_, Int.not_le.1 h1_]
        exact Ends.of ⟨rfl, rfl⟩
end Go.Proofs.YtefoleocbhkobaaGreatDoor
namespace Go.Proofs.YtefoleocbhkobaaGreatDoor
open Go Go.Ev
set_option linter.unusedSectionVars false
set_option linter.unusedSimpArgs false
set_option linter.unusedVariables false
structure Dr.small (d : Dr) (B : Nat) : Prop where
  places : d.places.length ≤ B
  texts : ∀ p ∈ d.places, p.small B
  leases : d.leases.length ≤ B
  wait : d.job.wait.length ≤ B
  jobm : d.job.members.length ≤ B
  opened : d.opened.length ≤ B
  cells : ∀ c ∈ d.cells, c.members.length ≤ B
def Dr.right (d : Dr) : Bool :=
  placesRight d.places && leasesRight d.leases && decide ((d.cells.length : Int) = 3) && decide ((d.lows.length : Int) = 3) && decide (2 ≤ d.next) && decide (d.next ≤ 1099511627776) && d.mark.right && d.job.right && decide ((d.opened.length : Int) ≤ 8) &&
  cellsFrom d.cells d.lows && rowsFrom 0 d.opened
set_option maxRecDepth 100000 in
set_option maxHeartbeats 16000000 in
theorem dir_ok {N B : Nat} (d : Dr) (hB : B ≤ 2000000) (hd : d.small B) (hN : 10 * B + 100 ≤ N) : run tab prim glob N 12 [.agg d.cellsL] = some (.bool d.right, []) := by
  obtain ⟨n, rfl⟩ : ∃ n, N = n + 1 := ⟨N - 1, by omega⟩
  rw [enters (fn := c12) rfl]
  obtain ⟨s1, s2, s3, s4, s5, s6, s7⟩ := hd
  have r1 := places_ok (N := n) d.places (by omega) s1 s2 (by omega)
  have r2 := leaseR_ok (N := n) d.leases (by omega) (by omega)
  have r3 : run tab prim glob n 31 [.agg [.int .i64 d.mark.wall, .int .i64 d.mark.tick, .int .i64 d.mark.node]] = some (.bool d.mark.right, []) := stampR_ok (by omega) d.mark
  have r4 := job_ok (N := n) d.job (by omega) (by omega) (by omega)
  simp only [Jb.cells] at r4
  have hL1 := fun env H hc hw h => loop12a (n := n) (B := B) d (by omega) s7 (by omega) d.cells d.lows [] [] n env H rfl rfl rfl hc hw (by omega) h
  have hL2 := fun env H h => loop12b (n := n) d (by omega) (by omega) d.opened [] 0 n env H rfl (by omega) h
  generalize hg1 : iter n (evCode ⟨run tab prim glob n, glob⟩ (iter n) b12_1) = g1 at hL1
  generalize hg2 : iter n (evCode ⟨run tab prim glob n, glob⟩ (iter n) b12_2) = g2 at hL2
  by_cases h1_ : placesRight d.places = true
  · by_cases h2_ : leasesRight d.leases = true
    · by_cases h3_ : (d.cells.length : Int) = 3
      · by_cases h4_ : (d.lows.length : Int) = 3
        · by_cases h5_ : 2 ≤ d.next
          · by_cases h6_ : d.next ≤ 1099511627776
            · by_cases h7_ : d.mark.right = true
              · by_cases h8_ : d.job.right = true
                · by_cases h9_ : (d.opened.length : Int) ≤ 8
                  · simp only [go_sem, Nat.reduceAdd, Nat.reduceMul, reduceIte, Nat.reduceLeDiff, Int.reduceLE, Int.reduceLT, Int.reduceToNat, c12, o12_1, o12_2, o12_3, o12_4, Dr.cellsL, Jb.cells, r1, r2, r3, r4, List.length_map, Dr.right, h1_, h2_, h3_, h4_, h5_, Int.not_lt.2 h5_, h6_, Int.not_lt.2 h6_, h7_, h8_, h9_, Int.not_lt.2 h9_, hg1]
                    generalize hE : g1 _ _ = o
                    obtain ⟨ex, env', H', rfl, h5⟩ := Ends.at (fun env H h => hL1 env H (by omega) (by simp; omega) h) hE (by rfl)
                    unfold DrEnds12 at h5
                    cases hw : cellsFrom d.cells d.lows
                    · rw [hw] at h5
                      obtain ⟨rfl, h6⟩ := h5
                      simp only [go_sem, Nat.reduceAdd, Nat.reduceMul, reduceIte, Nat.reduceLeDiff, Int.reduceLE, Int.reduceLT, Int.reduceToNat, c12, o12_1, o12_2, o12_3, o12_4, Dr.cellsL, Jb.cells, r1, r2, r3, r4, List.length_map, Dr.right, h1_, h2_, h3_, h4_, h5_, Int.not_lt.2 h5_, h6_, Int.not_lt.2 h6_, h7_, h8_, h9_, Int.not_lt.2 h9_, h6, hw]
                    rw [hw] at h5
                    obtain ⟨rfl, h6, h7, h8⟩ := h5
                    simp only [Dr.cellsL, Jb.cells, List.cons_append, List.nil_append] at h7 hL2
                    simp only [go_sem, Nat.reduceAdd, Nat.reduceMul, reduceIte, Nat.reduceLeDiff, Int.reduceLE, Int.reduceLT, Int.reduceToNat, c12, o12_1, o12_2, o12_3, o12_4, Dr.cellsL, Jb.cells, r1, r2, r3, r4, List.length_map, Dr.right, h1_, h2_, h3_, h4_, h5_, Int.not_lt.2 h5_, h6_, Int.not_lt.2 h6_, h7_, h8_, h9_, Int.not_lt.2 h9_, k12_2, ok12_2_1, ok12_2_2, h6, h7, hw, hg2]
                    generalize hE2 : g2 _ _ = o
                    obtain ⟨ex, env2, H2, rfl, h9⟩ := Ends.at hL2 hE2 (by simp only [go_sem, Nat.reduceAdd, Nat.reduceMul, reduceIte, Nat.reduceLeDiff, Int.reduceLE, Int.reduceLT, Int.reduceToNat, mentL, ment, ment1, evGh, keepE, keepH, h6, h7, h8, List.length_map])
                    cases hr : rowsFrom 0 d.opened
                    · rw [hr] at h9
                      obtain ⟨rfl, h10⟩ := h9
                      simp only [go_sem, Nat.reduceAdd, Nat.reduceMul, reduceIte, Nat.reduceLeDiff, Int.reduceLE, Int.reduceLT, Int.reduceToNat, c12, o12_1, o12_2, o12_3, o12_4, Dr.cellsL, Jb.cells, r1, r2, r3, r4, List.length_map, Dr.right, h1_, h2_, h3_, h4_, h5_, Int.not_lt.2 h5_, h6_, Int.not_lt.2 h6_, h7_, h8_, h9_, Int.not_lt.2 h9_, h10, hr]
                    rw [hr] at h9
                    simp only [if_true] at h9
                    subst h9
                    simp only [go_sem, Nat.reduceAdd, Nat.reduceMul, reduceIte, Nat.reduceLeDiff, Int.reduceLE, Int.reduceLT, Int.reduceToNat, c12, o12_1, o12_2, o12_3, o12_4, Dr.cellsL, Jb.cells, r1, r2, r3, r4, List.length_map, Dr.right, h1_, h2_, h3_, h4_, h5_, Int.not_lt.2 h5_, h6_, Int.not_lt.2 h6_, h7_, h8_, h9_, Int.not_lt.2 h9_, k12_1, ok12_1_1, hr]
                  · simp only [go_sem, Nat.reduceAdd, Nat.reduceMul, reduceIte, Nat.reduceLeDiff, Int.reduceLE, Int.reduceLT, Int.reduceToNat, c12, o12_1, o12_2, o12_3, o12_4, Dr.cellsL, Jb.cells, r1, r2, r3, r4, List.length_map, Dr.right, h1_, h2_, h3_, h4_, h5_, Int.not_lt.2 h5_, h6_, Int.not_lt.2 h6_, h7_, h8_, h9_, Int.not_le.1 h9_]
                · simp only [go_sem, Nat.reduceAdd, Nat.reduceMul, reduceIte, Nat.reduceLeDiff, Int.reduceLE, Int.reduceLT, Int.reduceToNat, c12, o12_1, o12_2, o12_3, o12_4, Dr.cellsL, Jb.cells, r1, r2, r3, r4, List.length_map, Dr.right, h1_, h2_, h3_, h4_, h5_, Int.not_lt.2 h5_, h6_, Int.not_lt.2 h6_, h7_, h8_]
              · simp only [go_sem, Nat.reduceAdd, Nat.reduceMul, reduceIte, Nat.reduceLeDiff, Int.reduceLE, Int.reduceLT, Int.reduceToNat, c12, o12_1, o12_2, o12_3, o12_4, Dr.cellsL, Jb.cells, r1, r2, r3, r4, List.length_map, Dr.right, h1_, h2_, h3_, h4_, h5_, Int.not_lt.2 h5_, h6_, Int.not_lt.2 h6_, h7_]
            · simp only [go_sem, Nat.reduceAdd, Nat.reduceMul, reduceIte, Nat.reduceLeDiff, Int.reduceLE, Int.reduceLT, Int.reduceToNat, c12, o12_1, o12_2, o12_3, o12_4, Dr.cellsL, Jb.cells, r1, r2, r3, r4, List.length_map, Dr.right, h1_, h2_, h3_, h4_, h5_, Int.not_lt.2 h5_, h6_, Int.not_le.1 h6_]
          · simp only [go_sem, Nat.reduceAdd, Nat.reduceMul, reduceIte, Nat.reduceLeDiff, Int.reduceLE, Int.reduceLT, Int.reduceToNat, c12, o12_1, o12_2, o12_3, o12_4, Dr.cellsL, Jb.cells, r1, r2, r3, r4, List.length_map, Dr.right, h1_, h2_, h3_, h4_, h5_, Int.not_le.1 h5_]
        · simp only [go_sem, Nat.reduceAdd, Nat.reduceMul, reduceIte, Nat.reduceLeDiff, Int.reduceLE, Int.reduceLT, Int.reduceToNat, c12, o12_1, o12_2, o12_3, o12_4, Dr.cellsL, Jb.cells, r1, r2, r3, r4, List.length_map, Dr.right, h1_, h2_, h3_, h4_]
      · simp only [go_sem, Nat.reduceAdd, Nat.reduceMul, reduceIte, Nat.reduceLeDiff, Int.reduceLE, Int.reduceLT, Int.reduceToNat, c12, o12_1, o12_2, o12_3, o12_4, Dr.cellsL, Jb.cells, r1, r2, r3, r4, List.length_map, Dr.right, h1_, h2_, h3_]
    · simp only [go_sem, Nat.reduceAdd, Nat.reduceMul, reduceIte, Nat.reduceLeDiff, Int.reduceLE, Int.reduceLT, Int.reduceToNat, c12, o12_1, o12_2, o12_3, o12_4, Dr.cellsL, Jb.cells, r1, r2, r3, r4, List.length_map, Dr.right, h1_, h2_]
  · simp only [go_sem, Nat.reduceAdd, Nat.reduceMul, reduceIte, Nat.reduceLeDiff, Int.reduceLE, Int.reduceLT, Int.reduceToNat, c12, o12_1, o12_2, o12_3, o12_4, Dr.cellsL, Jb.cells, r1, r2, r3, r4, List.length_map, Dr.right, h1_]
end Go.Proofs.YtefoleocbhkobaaGreatDoor
namespace Go.Proofs.YtefoleocbhkobaaGreatDoor
open Go Go.Ev
set_option linter.unusedSectionVars false
set_option linter.unusedSimpArgs false
set_option linter.unusedVariables false
set_option maxRecDepth 100000 in
set_option maxHeartbeats 16000000 in
theorem dir19_ok {N B : Nat} (d : Dr) (hB : B ≤ 2000000) (hd : d.small B) (hN : 10 * B + 100 ≤ N) : run tab prim glob N 13 [.agg d.cellsL] = some (.bool d.right, []) := by
  obtain ⟨n, rfl⟩ : ∃ n, N = n + 1 := ⟨N - 1, by omega⟩
  rw [enters (fn := c13) rfl]
  obtain ⟨s1, s2, s3, s4, s5, s6, s7⟩ := hd
  have r1 := places15_ok (N := n) d.places (by omega) s1 s2 (by omega)
  have r2 := leaseR16_ok (N := n) d.leases (by omega) (by omega)
  have r3 : run tab prim glob n 38 [.agg [.int .i64 d.mark.wall, .int .i64 d.mark.tick, .int .i64 d.mark.node]] = some (.bool d.mark.right, []) := stampR05_ok (by omega) d.mark
  have r4 := job19_ok (N := n) d.job (by omega) (by omega) (by omega)
  simp only [Jb.cells] at r4
  have r5 := fits_ok (N := n) (by omega) d.next
  have r6 : 2 ≤ d.next → rng 0 1099511627776 d.next = decide (d.next ≤ 1099511627776) := fun h => by
    unfold rng
    rw [decide_eq_true (show 0 ≤ d.next by omega), Bool.true_and]
  have hL1 := fun env H hc hw h => loop13a (n := n) (B := B) d (by omega) s7 (by omega) d.cells d.lows [] [] n env H rfl rfl rfl hc hw (by omega) h
  have hL2 := fun env H h => loop13b (n := n) d (by omega) (by omega) d.opened [] 0 n env H rfl (by omega) (.inl ⟨rfl, rfl⟩) (by omega) h
  generalize hg1 : iter n (evCode ⟨run tab prim glob n, glob⟩ (iter n) b13_1) = g1 at hL1
  generalize hg2 : iter n (evCode ⟨run tab prim glob n, glob⟩ (iter n) b13_2) = g2 at hL2
  by_cases h1_ : placesRight d.places = true
  · by_cases h2_ : leasesRight d.leases = true
    · by_cases h3_ : (d.cells.length : Int) = 3
      · by_cases h4_ : (d.lows.length : Int) = 3
        · by_cases h5_ : 2 ≤ d.next
          · by_cases h6_ : d.next ≤ 1099511627776
            · by_cases h7_ : d.mark.right = true
              · by_cases h8_ : d.job.right = true
                · by_cases h9_ : (d.opened.length : Int) ≤ 8
                  · simp only [go_sem, Nat.reduceAdd, Nat.reduceMul, reduceIte, Nat.reduceLeDiff, Int.reduceLE, Int.reduceLT, Int.reduceToNat, c13, o13_1, o13_2, o13_3, o13_4, Dr.cellsL, Jb.cells, r1, r2, r3, r4, r5, r6, List.length_map, Dr.right, h1_, h2_, h3_, h4_, h5_, Int.not_lt.2 h5_, h6_, Int.not_lt.2 h6_, h7_, h8_, h9_, Int.not_lt.2 h9_, hg1]
                    generalize hE : g1 _ _ = o
                    obtain ⟨ex, env', H', rfl, h5⟩ := Ends.at (fun env H h => hL1 env H (by omega) (by simp; omega) h) hE (by rfl)
                    unfold DrEnds at h5
                    cases hw : cellsFrom d.cells d.lows
                    · rw [hw] at h5
                      obtain ⟨rfl, h6⟩ := h5
                      simp only [go_sem, Nat.reduceAdd, Nat.reduceMul, reduceIte, Nat.reduceLeDiff, Int.reduceLE, Int.reduceLT, Int.reduceToNat, c13, o13_1, o13_2, o13_3, o13_4, Dr.cellsL, Jb.cells, r1, r2, r3, r4, r5, r6, List.length_map, Dr.right, h1_, h2_, h3_, h4_, h5_, Int.not_lt.2 h5_, h6_, Int.not_lt.2 h6_, h7_, h8_, h9_, Int.not_lt.2 h9_, h6, hw]
                    rw [hw] at h5
                    obtain ⟨rfl, h6, h7⟩ := h5
                    simp only [Dr.cellsL, Jb.cells, List.cons_append, List.nil_append] at h7 hL2
                    simp only [go_sem, Nat.reduceAdd, Nat.reduceMul, reduceIte, Nat.reduceLeDiff, Int.reduceLE, Int.reduceLT, Int.reduceToNat, c13, o13_1, o13_2, o13_3, o13_4, Dr.cellsL, Jb.cells, r1, r2, r3, r4, r5, r6, List.length_map, Dr.right, h1_, h2_, h3_, h4_, h5_, Int.not_lt.2 h5_, h6_, Int.not_lt.2 h6_, h7_, h8_, h9_, Int.not_lt.2 h9_, k13_2, ok13_2_1, h6, h7, hw, hg2]
                    generalize hE2 : g2 _ _ = o
                    obtain ⟨ex, env2, H2, rfl, h9⟩ := Ends.at hL2 hE2 (by simp only [go_sem, Nat.reduceAdd, Nat.reduceMul, reduceIte, Nat.reduceLeDiff, Int.reduceLE, Int.reduceLT, Int.reduceToNat, mentL, ment, ment1, evGh, keepE, keepH, h6, h7, List.length_map])
                    cases hr : rowsFrom 0 d.opened
                    · rw [hr] at h9
                      obtain ⟨rfl, h10⟩ := h9
                      simp only [go_sem, Nat.reduceAdd, Nat.reduceMul, reduceIte, Nat.reduceLeDiff, Int.reduceLE, Int.reduceLT, Int.reduceToNat, c13, o13_1, o13_2, o13_3, o13_4, Dr.cellsL, Jb.cells, r1, r2, r3, r4, r5, r6, List.length_map, Dr.right, h1_, h2_, h3_, h4_, h5_, Int.not_lt.2 h5_, h6_, Int.not_lt.2 h6_, h7_, h8_, h9_, Int.not_lt.2 h9_, h10, hr]
                    rw [hr] at h9
                    simp only [if_true] at h9
                    subst h9
                    simp only [go_sem, Nat.reduceAdd, Nat.reduceMul, reduceIte, Nat.reduceLeDiff, Int.reduceLE, Int.reduceLT, Int.reduceToNat, c13, o13_1, o13_2, o13_3, o13_4, Dr.cellsL, Jb.cells, r1, r2, r3, r4, r5, r6, List.length_map, Dr.right, h1_, h2_, h3_, h4_, h5_, Int.not_lt.2 h5_, h6_, Int.not_lt.2 h6_, h7_, h8_, h9_, Int.not_lt.2 h9_, k13_1, ok13_1_1, hr]
                  · simp only [go_sem, Nat.reduceAdd, Nat.reduceMul, reduceIte, Nat.reduceLeDiff, Int.reduceLE, Int.reduceLT, Int.reduceToNat, c13, o13_1, o13_2, o13_3, o13_4, Dr.cellsL, Jb.cells, r1, r2, r3, r4, r5, r6, List.length_map, Dr.right, h1_, h2_, h3_, h4_, h5_, Int.not_lt.2 h5_, h6_, Int.not_lt.2 h6_, h7_, h8_, h9_, Int.not_le.1 h9_]
                · simp only [go_sem, Nat.reduceAdd, Nat.reduceMul, reduceIte, Nat.reduceLeDiff, Int.reduceLE, Int.reduceLT, Int.reduceToNat, c13, o13_1, o13_2, o13_3, o13_4, Dr.cellsL, Jb.cells, r1, r2, r3, r4, r5, r6, List.length_map, Dr.right, h1_, h2_, h3_, h4_, h5_, Int.not_lt.2 h5_, h6_, Int.not_lt.2 h6_, h7_, h8_]
              · simp only [go_sem, Nat.reduceAdd, Nat.reduceMul, reduceIte, Nat.reduceLeDiff, Int.reduceLE, Int.reduceLT, Int.reduceToNat, c13, o13_1, o13_2, o13_3, o13_4, Dr.cellsL, Jb.cells, r1, r2, r3, r4, r5, r6, List.length_map, Dr.right, h1_, h2_, h3_, h4_, h5_, Int.not_lt.2 h5_, h6_, Int.not_lt.2 h6_, h7_]
            · simp only [go_sem, Nat.reduceAdd, Nat.reduceMul, reduceIte, Nat.reduceLeDiff, Int.reduceLE, Int.reduceLT, Int.reduceToNat, c13, o13_1, o13_2, o13_3, o13_4, Dr.cellsL, Jb.cells, r1, r2, r3, r4, r5, r6, List.length_map, Dr.right, h1_, h2_, h3_, h4_, h5_, Int.not_lt.2 h5_, h6_, Int.not_le.1 h6_]
          · simp only [go_sem, Nat.reduceAdd, Nat.reduceMul, reduceIte, Nat.reduceLeDiff, Int.reduceLE, Int.reduceLT, Int.reduceToNat, c13, o13_1, o13_2, o13_3, o13_4, Dr.cellsL, Jb.cells, r1, r2, r3, r4, r5, r6, List.length_map, Dr.right, h1_, h2_, h3_, h4_, h5_, Int.not_le.1 h5_]
        · simp only [go_sem, Nat.reduceAdd, Nat.reduceMul, reduceIte, Nat.reduceLeDiff, Int.reduceLE, Int.reduceLT, Int.reduceToNat, c13, o13_1, o13_2, o13_3, o13_4, Dr.cellsL, Jb.cells, r1, r2, r3, r4, r5, r6, List.length_map, Dr.right, h1_, h2_, h3_, h4_]
      · simp only [go_sem, Nat.reduceAdd, Nat.reduceMul, reduceIte, Nat.reduceLeDiff, Int.reduceLE, Int.reduceLT, Int.reduceToNat, c13, o13_1, o13_2, o13_3, o13_4, Dr.cellsL, Jb.cells, r1, r2, r3, r4, r5, r6, List.length_map, Dr.right, h1_, h2_, h3_]
    · simp only [go_sem, Nat.reduceAdd, Nat.reduceMul, reduceIte, Nat.reduceLeDiff, Int.reduceLE, Int.reduceLT, Int.reduceToNat, c13, o13_1, o13_2, o13_3, o13_4, Dr.cellsL, Jb.cells, r1, r2, r3, r4, r5, r6, List.length_map, Dr.right, h1_, h2_]
  · simp only [go_sem, Nat.reduceAdd, Nat.reduceMul, reduceIte, Nat.reduceLeDiff, Int.reduceLE, Int.reduceLT, Int.reduceToNat, c13, o13_1, o13_2, o13_3, o13_4, Dr.cellsL, Jb.cells, r1, r2, r3, r4, r5, r6, List.length_map, Dr.right, h1_]
end Go.Proofs.YtefoleocbhkobaaGreatDoor
namespace Go.Proofs.YtefoleocbhkobaaGreatDoor
open Go Go.Ev
set_option linter.unusedSectionVars false
set_option linter.unusedSimpArgs false
set_option linter.unusedVariables false
def refZ : List PV := [.nul, .nul, .int .i64 0, .nul, .nul, .int .i64 0, .int .i64 0, .int .i64 0, .int .i64 0, .int .i64 0, .int .i64 0, .int .i64 0, .int .i64 0, .int .i64 0, .int .i64 0, .int .i64 0, .str [], .nul, .int .i64 0, .int .i64 0, .int .i64 0, .str [], .str [], .nul, .int .i64 0, .int .i64 0, .int .i64 0, .nul, .nul]
def refX (d : Dr) (a b : PV) : List PV := [.ro (d.places.map Pl.cells), a, .int .i64 d.next, .ro (d.leases.map Le.cells), .ro (d.lows.map St.cells), .int .i64 d.mark.wall, .int .i64 d.mark.tick, .int .i64 d.mark.node] ++ d.job.cells ++ [b]
theorem loop9a {n : Nat} (d : Dr) (hl : d.cells.length ≤ 1000000000) : ∀ (rest pre : List Inf) (m : Nat) (env : Env) (H : Heap), d.cells = pre ++ rest → rest.length + 1 ≤ m →
    evGh (.keep [1, 2, 3, 22, 23, 24] [100001, 100002, 100003, 400301]) env H = some ([(1, .ptr 100001 0), (2, .ptr 100002 0), (3, .ptr 100003 0), (22, .ro (d.cells.map infRow)), (23, .int .i64 d.cells.length), (24, .int .i64 pre.length)],
      [(100001, .box d.cellsL), (100002, .box refZ), (100003, .box (refX d (.own 400301 0 pre.length pre.length) .nul)), (400301, .arr 3 (pre.map infRow))]) →
    iter m (evCode ⟨run tab prim glob n, glob⟩ (iter n) b9_1) env H = some (.exit 0, [(25, .bool false), (1, .ptr 100001 0), (2, .ptr 100002 0), (3, .ptr 100003 0), (22, .ro (d.cells.map infRow)), (23, .int .i64 d.cells.length), (24, .int .i64 d.cells.length)],
      [(100001, .box d.cellsL), (100002, .box refZ), (100003, .box (refX d (.own 400301 0 d.cells.length d.cells.length) .nul)), (400301, .arr 3 (d.cells.map infRow))])
  | [], pre, m + 1, env, H, hp, hm, hk => by
    have e0 : pre = d.cells := by rw [hp]; simp
    subst e0
    rw [iter_step]
    generalize iter m (evCode ⟨run tab prim glob n, glob⟩ (iter n) b9_1) = g
    simp only [b9_1, ob9_1_1, ob9_1_2, ob9_1_3, ob9_1_4, hk, go_sem, Nat.reduceAdd, Nat.reduceMul, reduceIte, Nat.reduceLeDiff, Int.reduceLE, Int.reduceLT, Int.reduceToNat, Int.lt_irrefl, afterIt]
  | x :: rest, pre, m + 1, env, H, hp, hm, hk => by
    have e0 : pre.length < d.cells.length := by rw [hp]; simp
    have e1 : (pre.length : Int) < (d.cells.length : Int) := by omega
    have e2 : (0 : Int) ≤ (pre.length : Int) := by omega
    have e3 : (d.cells.map infRow)[pre.length]? = some [.int .i64 x.view, .ro (x.members.map rowI), .bool x.whole] := by rw [hp]; simp [infRow]
    have e4 : IntKind.i64.wrap ((pre.length : Int) + 1) = ((pre.length + 1 : Nat) : Int) := cast_add (by omega)
    have e5 : ¬ pre.length + 1 ≤ pre.length := by omega
    have e6 : (pre.length + 1) * 40 ≤ 140737488355328 := by omega
    have ih := loop9a (n := n) d hl rest (pre ++ [x]) m
    rw [iter_step]
    generalize iter m (evCode ⟨run tab prim glob n, glob⟩ (iter n) b9_1) = g at ih ⊢
    simp only [refX, Jb.cells, List.cons_append, List.nil_append, List.length_append, List.length_cons, List.length_nil, List.map_append, List.map_cons, List.map_nil] at hk ih ⊢
    simp only [b9_1, ob9_1_1, ob9_1_2, ob9_1_3, ob9_1_4, hk, go_sem, Nat.reduceAdd, Nat.reduceMul, reduceIte, Nat.reduceLeDiff, Int.reduceLE, Int.reduceLT, Int.reduceToNat, e1, e2, e3, e4, e5, e6, List.length_map, Nat.beq_refl, afterIt]
    exact ih _ _ (by rw [hp]; simp) (by simp at hm; omega) rfl
theorem loop9b {n : Nat} (d : Dr) (hl : d.opened.length ≤ 1000000000) : ∀ (rest pre : List Rw) (m : Nat) (env : Env) (H : Heap), d.opened = pre ++ rest → rest.length + 1 ≤ m →
    evGh (.keep [2, 3, 36, 37, 38] [100001, 100002, 100003, 100005, 100031, 100032, 400301, 400328]) env H = some ([(2, .ptr 100002 0), (3, .ptr 100003 0), (36, .ro (d.opened.map Rw.cells)), (37, .int .i64 d.opened.length), (38, .int .i64 pre.length)],
      [(100001, .box d.cellsL), (100002, .box refZ), (100003, .box (refX d (.own 400301 0 d.cells.length d.cells.length) (.own 400328 0 pre.length pre.length))), (400301, .arr 3 (d.cells.map infRow)), (400328, .arr 7 (pre.map Rw.cells))]) →
    iter m (evCode ⟨run tab prim glob n, glob⟩ (iter n) b9_2) env H = some (.exit 2, [(39, .bool false), (2, .ptr 100002 0), (3, .ptr 100003 0), (36, .ro (d.opened.map Rw.cells)), (37, .int .i64 d.opened.length), (38, .int .i64 d.opened.length)],
      [(100001, .box d.cellsL), (100002, .box refZ), (100003, .box (refX d (.own 400301 0 d.cells.length d.cells.length) (.own 400328 0 d.opened.length d.opened.length))), (400301, .arr 3 (d.cells.map infRow)), (400328, .arr 7 (d.opened.map Rw.cells))])
  | [], pre, m + 1, env, H, hp, hm, hk => by
    have e0 : pre = d.opened := by rw [hp]; simp
    subst e0
    rw [iter_step]
    generalize iter m (evCode ⟨run tab prim glob n, glob⟩ (iter n) b9_2) = g
    simp only [b9_2, ob9_2_1, ob9_2_2, ob9_2_3, ob9_2_4, hk, go_sem, Nat.reduceAdd, Nat.reduceMul, reduceIte, Nat.reduceLeDiff, Int.reduceLE, Int.reduceLT, Int.reduceToNat, Int.lt_irrefl, afterIt]
  | x :: rest, pre, m + 1, env, H, hp, hm, hk => by
    have e0 : pre.length < d.opened.length := by rw [hp]; simp
    have e1 : (pre.length : Int) < (d.opened.length : Int) := by omega
    have e2 : (0 : Int) ≤ (pre.length : Int) := by omega
    have e3 : (d.opened.map Rw.cells)[pre.length]? = some [.int .i64 x.client, .int .i64 x.req, .int .i64 x.lease, .int .i64 x.tm.wall, .int .i64 x.tm.tick, .int .i64 x.tm.node, .int .i64 x.err] := by rw [hp]; simp [Rw.cells]
    have e4 : IntKind.i64.wrap ((pre.length : Int) + 1) = ((pre.length + 1 : Nat) : Int) := cast_add (by omega)
    have e5 : ¬ pre.length + 1 ≤ pre.length := by omega
    have e6 : (pre.length + 1) * 56 ≤ 140737488355328 := by omega
    have ih := loop9b (n := n) d hl rest (pre ++ [x]) m
    rw [iter_step]
    generalize iter m (evCode ⟨run tab prim glob n, glob⟩ (iter n) b9_2) = g at ih ⊢
    simp only [refX, Jb.cells, List.cons_append, List.nil_append, List.length_append, List.length_cons, List.length_nil, List.map_append, List.map_cons, List.map_nil] at hk ih ⊢
    simp only [b9_2, ob9_2_1, ob9_2_2, ob9_2_3, ob9_2_4, hk, go_sem, Nat.reduceAdd, Nat.reduceMul, reduceIte, Nat.reduceLeDiff, Int.reduceLE, Int.reduceLT, Int.reduceToNat, e1, e2, e3, e4, e5, e6, List.length_map, Nat.beq_refl, afterIt]
    exact ih _ _ (by rw [hp]; simp) (by simp at hm; omega) rfl
set_option maxHeartbeats 4000000 in
theorem ref_ok {N : Nat} (d : Dr) (hc : d.cells.length ≤ 2000000) (ho : d.opened.length ≤ 2000000) (hN : d.cells.length + d.opened.length + 10 ≤ N) : run tab prim glob N 9 [.agg d.cellsL] = some (.agg d.cellsL, []) := by
  obtain ⟨n, rfl⟩ : ∃ n, N = n + 1 := ⟨N - 1, by omega⟩
  rw [enters (fn := c9) rfl]
  have hL1 := fun env H h => loop9a (n := n) d (by omega) d.cells [] n env H rfl (by omega) h
  have hL2 := fun env H h => loop9b (n := n) d (by omega) d.opened [] n env H rfl (by omega) h
  generalize hg1 : iter n (evCode ⟨run tab prim glob n, glob⟩ (iter n) b9_1) = g1 at hL1
  generalize hg2 : iter n (evCode ⟨run tab prim glob n, glob⟩ (iter n) b9_2) = g2 at hL2
  simp only [Dr.cellsL, refX, refZ, Jb.cells, List.cons_append, List.nil_append] at hL1 hL2 ⊢
  simp only [c9, o9_1, o9_2, o9_3, o9_4, o9_5, go_sem, Nat.reduceAdd, Nat.reduceMul, reduceIte, Nat.reduceLeDiff, Int.reduceLE, Int.reduceLT, Int.reduceToNat, mentL, ment, ment1, evGh, keepE, keepH, hg1, List.set_cons_zero, List.set_cons_succ]
  rw [hL1 _ _ (by simp only [go_sem, Nat.reduceAdd, Nat.reduceMul, reduceIte, Nat.reduceLeDiff, Int.reduceLE, Int.reduceLT, Int.reduceToNat, mentL, ment, ment1, evGh, keepE, keepH, List.length_map])]
  simp only [go_sem, Nat.reduceAdd, Nat.reduceMul, reduceIte, Nat.reduceLeDiff, Int.reduceLE, Int.reduceLT, Int.reduceToNat, mentL, ment, ment1, evGh, keepE, keepH, hg2, List.set_cons_zero, List.set_cons_succ]
  rw [hL2 _ _ (by simp only [go_sem, Nat.reduceAdd, Nat.reduceMul, reduceIte, Nat.reduceLeDiff, Int.reduceLE, Int.reduceLT, Int.reduceToNat, mentL, ment, ment1, evGh, keepE, keepH, List.length_map])]
  have t1 : List.take d.cells.length (List.map infRow d.cells) = List.map infRow d.cells := List.take_of_length_le (by simp)
  have t2 : List.take d.opened.length (List.map Rw.cells d.opened) = List.map Rw.cells d.opened := List.take_of_length_le (by simp)
  simp only [go_sem, Nat.reduceAdd, Nat.reduceMul, reduceIte, Nat.reduceLeDiff, Int.reduceLE, Int.reduceLT, Int.reduceToNat, mentL, ment, ment1, evGh, keepE, keepH, List.length_map, Nat.beq_refl, t1, t2]
end Go.Proofs.YtefoleocbhkobaaGreatDoor
namespace Go.Proofs.YtefoleocbhkobaaGreatDoor
open Go Go.Ev
set_option linter.unusedSectionVars false
set_option linter.unusedSimpArgs false
set_option linter.unusedVariables false
def j0 : Jb := ⟨0, 0, 0, 0, 0, 0, 0, 0, [], [], 0, 0, 0, [], [], [], ⟨0, 0, 0⟩, []⟩
def d0 : Dr := ⟨[⟨[], [], 1, 1, 1⟩], [⟨1, [1, 2], true⟩, ⟨1, [2, 3], true⟩, ⟨1, [3, 1], true⟩], 2, [], [⟨0, 0, 0⟩, ⟨0, 0, 0⟩, ⟨0, 0, 0⟩], ⟨0, 0, 0⟩, j0, []⟩
theorem new_ok (n : Nat) : run tab prim glob (n + 60) 11 [] = some (.agg d0.cellsL, []) := by kernel_rfl
theorem d0_small : d0.small 3 := by
  refine ⟨by decide, ?_, by decide, by decide, by decide, by decide, by decide⟩
  intro p hp
  simp only [d0, List.mem_cons, List.not_mem_nil, or_false] at hp
  subst hp
  exact ⟨by decide, by decide⟩
theorem d0_right : d0.right = true := by kernel_rfl
abbrev news1 : Env := [(1, .ptr 100001 0), (3, .ptr 100003 0), (64, .ro (d0.cells.map infRow)), (65, .int .i64 3)]
abbrev newsH (d : Dr) : Heap := [(100001, .box d.cellsL), (100003, .box d0.cellsL)]
set_option maxRecDepth 100000 in
set_option maxHeartbeats 4000000 in
theorem loop3 {n m : Nat} (d : Dr) (env : Env) (H : Heap) (hk : evGh (.keep [1, 3, 64, 65, 66] [100001, 100003]) env H = some (news1 ++ [(66, .int .i64 0)], newsH d)) :
    iter (m + 4) (evCode ⟨run tab prim glob n, glob⟩ (iter n) b3_1) env H = some (.exit 0, (67, .bool false) :: news1 ++ [(66, .int .i64 3)], newsH d) := by
  have n1 : ((3 : Int) = 0) = False := by simp
  have w1 : IntKind.i64.wrap ((0 : Int) + 1) = 1 := by decide
  have w2 : IntKind.i64.wrap ((1 : Int) + 1) = 2 := by decide
  have w3 : IntKind.i64.wrap ((2 : Int) + 1) = 3 := by decide
  have v0 : IntKind.i64.wrap (Int.tmod 1 3 + 1) = 2 := by decide
  have v1 : IntKind.i64.wrap (Int.tmod 2 3 + 1) = 3 := by decide
  have v2 : IntKind.i64.wrap (Int.tmod 3 3 + 1) = 1 := by decide
  simp only [news1, newsH, Dr.cellsL, Jb.cells, d0, j0, infRow, rowI, Pl.cells, St.cells, List.map_cons, List.map_nil, List.cons_append, List.nil_append] at hk ⊢
  rw [iter_step]
  simp only [b3_1, ob3_1_1, ob3_1_2, ob3_1_3, ob3_1_4, ob3_1_5, hk, go_sem, Nat.reduceAdd, Nat.reduceMul, reduceIte, Nat.reduceLeDiff, Int.reduceLE, Int.reduceLT, Int.reduceToNat, afterIt, n1, w1, v0]
  rw [iter_step]
  simp only [b3_1, ob3_1_1, ob3_1_2, ob3_1_3, ob3_1_4, ob3_1_5, go_sem, Nat.reduceAdd, Nat.reduceMul, reduceIte, Nat.reduceLeDiff, Int.reduceLE, Int.reduceLT, Int.reduceToNat, mentL, ment, ment1, evGh, keepE, keepH, afterIt, n1, w1, w2, v1]
  rw [iter_step]
  simp only [b3_1, ob3_1_1, ob3_1_2, ob3_1_3, ob3_1_4, ob3_1_5, go_sem, Nat.reduceAdd, Nat.reduceMul, reduceIte, Nat.reduceLeDiff, Int.reduceLE, Int.reduceLT, Int.reduceToNat, mentL, ment, ment1, evGh, keepE, keepH, afterIt, n1, w2, w3, v2]
  rw [iter_step]
  simp only [b3_1, ob3_1_1, ob3_1_2, ob3_1_3, ob3_1_4, ob3_1_5, go_sem, Nat.reduceAdd, Nat.reduceMul, reduceIte, Nat.reduceLeDiff, Int.reduceLE, Int.reduceLT, Int.reduceToNat, mentL, ment, ment1, evGh, keepE, keepH, afterIt, n1]
end Go.Proofs.YtefoleocbhkobaaGreatDoor
namespace Go.Proofs.YtefoleocbhkobaaGreatDoor
open Go Go.Ev
set_option linter.unusedSectionVars false
set_option linter.unusedSimpArgs false
set_option linter.unusedVariables false
set_option maxRecDepth 100000 in
set_option maxHeartbeats 16000000 in
theorem news_ok {N B : Nat} (d : Dr) (hB : B ≤ 2000000) (hd : d.small B) (hc : d.cells.length ≤ B) (hN : 10 * B + 200 ≤ N) : run tab prim glob N 3 [.agg d.cellsL] = some (.bool true, []) := by
  obtain ⟨n, rfl⟩ : ∃ n, N = n + 1 := ⟨N - 1, by omega⟩
  rw [enters (fn := c3) rfl]
  have r1 := ref_ok (N := n) d (by omega) (by have := hd.opened; omega) (by have := hd.opened; omega)
  obtain ⟨b, r2⟩ := small_ok (N := n) d (by omega) (by omega)
  have r3 := new_ok (n - 60)
  have r4 := awake_ok (n - 60)
  rw [show n - 60 + 60 = n by omega] at r3 r4
  have r5 := dir_ok (N := n) d hB hd (by omega)
  have r6 := dir19_ok (N := n) d hB hd (by omega)
  have r7 := dir_ok (N := n) d0 (by omega) d0_small (by omega)
  rw [d0_right] at r7
  have hL : ∀ env H, evGh (.keep [1, 3, 64, 65, 66] [100001, 100003]) env H = some (news1 ++ [(66, .int .i64 0)], newsH d) →
      iter n (evCode ⟨run tab prim glob n, glob⟩ (iter n) b3_1) env H = some (.exit 0, (67, .bool false) :: news1 ++ [(66, .int .i64 3)], newsH d) := by
    intro env H h
    have := loop3 (n := n) (m := n - 4) d env H h
    rwa [show n - 4 + 4 = n by omega] at this
  generalize hg1 : iter n (evCode ⟨run tab prim glob n, glob⟩ (iter n) b3_1) = g1 at hL
  have n1 : IntKind.i64.wrap ((0 : Int) + 0) = 0 := by decide
  have n2 : ((0 : Int) < 0) = False := by simp
  simp only [newsH, news1, Dr.cellsL, Jb.cells, d0, j0, infRow, rowI, Pl.cells, St.cells, List.map_cons, List.map_nil, List.cons_append, List.nil_append] at r1 r2 r3 r5 r6 r7 hL ⊢
  cases b
  · simp only [c3, o3_1, o3_2, o3_3, o3_4, o3_5, o3_6, o3_7, go_sem, Nat.reduceAdd, Nat.reduceMul, reduceIte, Nat.reduceLeDiff, Int.reduceLE, Int.reduceLT, Int.reduceToNat, r1, r2, r4]
  · simp only [c3, o3_1, o3_2, o3_3, o3_4, o3_5, o3_6, o3_7, go_sem, Nat.reduceAdd, Nat.reduceMul, reduceIte, Nat.reduceLeDiff, Int.reduceLE, Int.reduceLT, Int.reduceToNat, r1, r2, r3, r4, n1, n2, hg1, Int.lt_irrefl]
    rw [hL _ _ (by simp only [go_sem, Nat.reduceAdd, Nat.reduceMul, reduceIte, Nat.reduceLeDiff, Int.reduceLE, Int.reduceLT, Int.reduceToNat, mentL, ment, ment1, evGh, keepE, keepH])]
    simp only [k3_1, ok3_1_1, go_sem, Nat.reduceAdd, Nat.reduceMul, reduceIte, Nat.reduceLeDiff, Int.reduceLE, Int.reduceLT, Int.reduceToNat, r1, r4, r5, r6, r7, beq_self_eq_true]
end Go.Proofs.YtefoleocbhkobaaGreatDoor
namespace Go.Ev
open Go
set_option linter.unusedSectionVars false
set_option linter.unusedSimpArgs false
set_option linter.unusedVariables false
inductive Sh where
  | int (k : IntKind)
  | bool
  | str
  | slice (row : List Sh)
def repS (l : List Sh) : Nat → List Sh
  | 0 => []
  | n + 1 => l ++ repS l n
def shapesF (P : Program) (g : TypeId → Option (List Sh)) : List Field → Nat → Option (List Sh)
  | [], _ => some []
  | f :: r, off => match g f.type with
    | some l => match Nat.beq f.offset off, Nat.beq (P.cellsOf f.type) l.length, shapesF P g r (off + l.length) with
      | true, true, some m => some (l ++ m)
      | _, _, _ => none
    | none => none
def shapes (P : Program) : Nat → TypeId → Option (List Sh)
  | 0, _ => none
  | n + 1, t => match P.underlying t with
    | some .bool => some [.bool]
    | some (.int k) => some [.int k]
    | some .string => some [.str]
    | some (.slice e) => match shapes P n e with
      | some (s :: r) => match Nat.beq (P.cellsOf e) (r.length + 1) with
        | true => some [.slice (s :: r)]
        | false => none
      | _ => none
    | some (.struct fs) => match shapesF P (shapes P n) fs.toList 0 with
      | some l => match Nat.beq (P.cellsOf t) l.length with
        | true => some l
        | false => none
      | none => none
    | some (.array k e) => match shapes P n e with
      | some l => match Nat.beq (P.cellsOf e) l.length, Nat.beq (P.cellsOf t) (k * l.length) with
        | true, true => some (repS l k)
        | _, _ => none
      | none => none
    | _ => none
inductive Fit : Sh → PV → Prop where
  | int (k : IntKind) (n : Int) (h : (Lit.int k n).wf = true) : Fit (.int k) (.int k n)
  | bool (b : Bool) : Fit .bool (.bool b)
  | str (s : List UInt8) : Fit .str (.str s)
  | slice (row : List Sh) (rows : List (List PV)) (h1 : ∀ r ∈ rows, r.length = row.length) (h2 : ∀ r ∈ rows, ∀ (i : Nat) (s : Sh) (p : PV), row[i]? = some s → r[i]? = some p → Fit s p) : Fit (.slice row) (.ro rows)
def FitL (row : List Sh) (r : List PV) : Prop := r.length = row.length ∧ ∀ (i : Nat) (s : Sh) (p : PV), row[i]? = some s → r[i]? = some p → Fit s p
theorem FitL.nil : FitL [] [] := ⟨rfl, fun i s p h => by simp at h⟩
theorem FitL.one {s : Sh} {p : PV} (h : Fit s p) : FitL [s] [p] := ⟨rfl, fun i s' p' h1 h2 => by
  cases i with
  | zero => simp at h1 h2; subst h1; subst h2; exact h
  | succ i => simp at h1⟩
theorem FitL.append {a b : List Sh} {x y : List PV} (h : FitL a x) (h' : FitL b y) : FitL (a ++ b) (x ++ y) := by
  refine ⟨by simp [h.1, h'.1], fun i s p h1 h2 => ?_⟩
  rw [List.getElem?_append] at h1 h2
  rw [h.1] at h2
  split at h1
  · rename_i hi; rw [if_pos hi] at h2; exact h.2 i s p h1 h2
  · rename_i hi; rw [if_neg hi] at h2; exact h'.2 _ s p h1 h2
theorem FitL.cons {s : Sh} {row : List Sh} {r : List PV} (h : FitL (s :: row) r) : ∃ p q, r = p :: q ∧ Fit s p ∧ FitL row q := by
  cases r with
  | nil => cases h.1
  | cons p q => exact ⟨p, q, rfl, h.2 0 s p rfl rfl, by simpa using h.1, fun i s p h1 h2 => h.2 (i + 1) s p (by simpa using h1) (by simpa using h2)⟩
theorem FitL.done {r : List PV} (h : FitL [] r) : r = [] := by simpa using h.1
theorem Fit.rows {row : List Sh} {p : PV} (h : Fit (.slice row) p) : ∃ rows, p = .ro rows ∧ ∀ r ∈ rows, FitL row r := by
  cases h with
  | slice _ rows h1 h2 => exact ⟨rows, rfl, fun r hr => ⟨h1 r hr, h2 r hr⟩⟩
theorem Fit.rowsOf {X : Type} {row : List Sh} {p : PV} (cells : X → List PV) (hx : ∀ r, FitL row r → ∃ x, r = cells x) (h : Fit (.slice row) p) : ∃ xs : List X, p = .ro (xs.map cells) := by
  obtain ⟨rows, rfl, hr⟩ := h.rows
  clear h
  suffices ∃ xs : List X, rows = xs.map cells by obtain ⟨xs, rfl⟩ := this; exact ⟨xs, rfl⟩
  induction rows with
  | nil => exact ⟨[], rfl⟩
  | cons r rows ih =>
    obtain ⟨xs, rfl⟩ := ih fun r h => hr r (.tail _ h)
    obtain ⟨x, rfl⟩ := hx r (hr r (.head _))
    exact ⟨x :: xs, rfl⟩
mutual
def dcells {H : Type} : DataW H → List PV
  | .lit (.int k n) => [.int k n]
  | .lit (.bool b) => [.bool b]
  | .lit (.string s) => [.str s]
  | .nil => [.ro []]
  | .slice elems _ => [.ro (drows elems)]
  | .agg parts => dcellsL parts
  | _ => [.any]
def dcellsL {H : Type} : List (DataW H) → List PV
  | [] => []
  | d :: r => dcells d ++ dcellsL r
def drows {H : Type} : List (DataW H) → List (List PV)
  | [] => []
  | d :: r => dcells d :: drows r
end
theorem drows_map {H : Type} : ∀ l : List (DataW H), drows l = l.map dcells
  | [] => rfl
  | d :: r => by simp only [drows, drows_map r, List.map_cons]
abbrev noX : Nat → Prop := fun _ => False
def RepC (w : World) (cs : List Value) (pvs : List PV) : Prop := ∀ (i : Nat) (pv : PV), pvs[i]? = some pv → ∃ v, cs[i]? = some v ∧ v.oneCell' = true ∧ Rep w noX noRefs pv v
theorem RepC.one {w : World} {v : Value} {pv : PV} (h1 : v.oneCell' = true) (h : Rep w noX noRefs pv v) : RepC w [v] [pv] := fun i p hp => by
  cases i with
  | zero => simp at hp; subst hp; exact ⟨v, rfl, h1, h⟩
  | succ i => simp at hp
section
variable {H : Type} {enc : TypeId × Value → H} {P : Program} {w : World} {base : Nat} {spare : Nat → Bool} {held : Bool}
def OpenAt (P : Program) (w : World) (g : TypeId → List Value → Option (DataW H × List MemPlace)) (t : TypeId) (l : List Sh) : Prop :=
  ∀ cs d ps, g t cs = some (d, ps) → FitL l (dcells d) ∧ cs.length = l.length ∧ RepC w cs (dcells d)
theorem open_fields {g : TypeId → List Value → Option (DataW H × List MemPlace)} {sh : TypeId → Option (List Sh)} (hg : ∀ t l, sh t = some l → OpenAt P w g t l) :
    ∀ (fs : List Field) (off : Nat) (m : List Sh) (xs : List (DataW H × List MemPlace)) (cs : List Value), shapesF P sh fs off = some m → xs.length = fs.length →
      (∀ (i : Nat) (f : Field), fs[i]? = some f → g f.type ((cs.drop f.offset).take (P.cellsOf f.type)) = xs[i]?) →
      FitL m (dcellsL (xs.map (·.1))) ∧ off + m.length ≤ max off cs.length ∧ RepC w (cs.drop off) (dcellsL (xs.map (·.1)))
  | [], off, m, xs, cs, hm, hl, _ => by
    simp only [shapesF] at hm; cases hm
    have : xs = [] := by simpa using hl
    subst this
    exact ⟨.nil, by simp; omega, fun i p hp => by simp [dcellsL] at hp⟩
  | f :: fs, off, m, [], cs, hm, hl, _ => by simp at hl
  | f :: fs, off, m, (d, ps) :: xs, cs, hm, hl, hx => by
    simp only [shapesF] at hm
    split at hm <;> first | (cases hm; done) | skip
    rename_i l hsh
    split at hm <;> cases hm
    rename_i m' h1 h2 h3
    have e1 := Nat.eq_of_beq_eq_true h1
    have e2 := Nat.eq_of_beq_eq_true h2
    have h0 := hx 0 f rfl
    obtain ⟨a1, a2, a3⟩ := hg _ _ hsh _ d ps (by simpa using h0)
    obtain ⟨b1, b2, b3⟩ := open_fields hg fs (off + l.length) m' xs cs h3 (by simpa using hl) (fun i f' hf => by simpa using hx (i + 1) f' (by simpa using hf))
    simp only [List.map_cons, dcellsL]
    refine ⟨a1.append b1, ?_, fun i p hp => ?_⟩
    · simp only [List.length_take, List.length_drop, List.length_append] at a2 ⊢
      omega
    · rw [List.getElem?_append] at hp
      split at hp
      · rename_i hi
        obtain ⟨v, c1, c2, c3⟩ := a3 i p hp
        refine ⟨v, ?_, c2, c3⟩
        rw [List.getElem?_take] at c1
        split at c1
        · rw [e1] at c1; exact c1
        · cases c1
      · rename_i hi
        obtain ⟨v, c1, c2, c3⟩ := b3 _ p hp
        refine ⟨v, ?_, c2, c3⟩
        rw [List.getElem?_drop] at c1 ⊢
        rw [← c1]
        congr 1
        have := a1.1
        omega
theorem open_elems {g : TypeId → List Value → Option (DataW H × List MemPlace)} {e : TypeId} {l : List Sh} (hg : OpenAt P w g e l) (hc : P.cellsOf e = l.length) :
    ∀ (k off : Nat) (xs : List (DataW H × List MemPlace)) (cs : List Value), xs.length = k → (∀ i, i < k → g e ((cs.drop (off + i * P.cellsOf e)).take (P.cellsOf e)) = xs[i]?) →
      FitL (repS l k) (dcellsL (xs.map (·.1))) ∧ RepC w (cs.drop off) (dcellsL (xs.map (·.1)))
  | 0, off, xs, cs, hl, _ => by
    have : xs = [] := by simpa using hl
    subst this
    exact ⟨.nil, fun i p hp => by simp [dcellsL] at hp⟩
  | k + 1, off, [], cs, hl, _ => by simp at hl
  | k + 1, off, (d, ps) :: xs, cs, hl, hx => by
    have h0 := hx 0 (by omega)
    rw [Nat.zero_mul, Nat.add_zero] at h0
    obtain ⟨a1, a2, a3⟩ := hg _ d ps (by simpa using h0)
    obtain ⟨b1, b3⟩ := open_elems hg hc k (off + P.cellsOf e) xs cs (by simpa using hl) (fun i hi => by
      have := hx (i + 1) (by omega)
      rw [show off + P.cellsOf e + i * P.cellsOf e = off + (i + 1) * P.cellsOf e by rw [Nat.add_mul]; omega]
      simpa using this)
    simp only [List.map_cons, dcellsL, repS]
    refine ⟨a1.append b1, fun i p hp => ?_⟩
    rw [List.getElem?_append] at hp
    split at hp
    · rename_i hi
      obtain ⟨v, c1, c2, c3⟩ := a3 i p hp
      refine ⟨v, ?_, c2, c3⟩
      rw [List.getElem?_take] at c1
      split at c1
      · exact c1
      · cases c1
    · rename_i hi
      obtain ⟨v, c1, c2, c3⟩ := b3 _ p hp
      refine ⟨v, ?_, c2, c3⟩
      rw [List.getElem?_drop] at c1 ⊢
      rw [← c1]
      congr 1
      have := a1.1
      omega
theorem add_add (a : Addr) (h : a.spot = none) (n : Nat) : a.add n = ⟨a.block, a.off + n, none⟩ := by
  unfold Addr.add
  split
  · cases a; simp_all
  · rfl
theorem open_trod : ∀ (fuel : Nat) (t : TypeId) (n : Nat) (l : List Sh), shapes P n t = some l → OpenAt P w (DataW.trod enc P w base spare held fuel) t l
  | 0, t, n, l, _ => fun cs d ps h => by simp [DataW.trod] at h
  | fuel + 1, t, 0, l, hs => by simp [shapes] at hs
  | fuel + 1, t, n + 1, l, hs => by
    intro cs d ps h
    simp only [shapes] at hs
    split at hs <;> first | (cases hs; done) | skip
    · rename_i ht
      cases hs
      obtain ⟨b, rfl, e⟩ := DataW.trod_bool ht h
      cases e
      exact ⟨.one (.bool b), rfl, .one rfl (.bool _ b)⟩
    · rename_i k ht
      cases hs
      obtain ⟨q, rfl, e, hw⟩ := DataW.trod_int ht h
      cases e
      exact ⟨.one (.int k q hw), rfl, .one rfl (.int _ k q)⟩
    · rename_i ht
      cases hs
      obtain ⟨s, rfl, e, _⟩ := DataW.trod_string ht h
      cases e
      refine ⟨.one (.str _), rfl, .one rfl ?_⟩
      have : s = ⟨s.data.toList.toArray⟩ := by cases s; simp
      rw [this]
      exact .str _ _
    · rename_i e ht
      split at hs <;> first | (cases hs; done) | skip
      rename_i s r he
      split at hs <;> cases hs
      rename_i hb
      have hc := Nat.eq_of_beq_eq_true hb
      rcases DataW.trod_slice ht h with ⟨rfl, e⟩ | ⟨a, len, cap, elems, rest, m, hm, rfl, e, hba, hl1, hl2, hel, hE, _, _⟩
      · cases e
        exact ⟨.one (.slice _ _ (fun r hr => by cases hr) (fun r hr => by cases hr)), rfl, .one rfl (.ro0 _ _ _)⟩
      · cases e
        cases hm
        have hI : ∀ i, i < len → ∃ x cs', elems[i]? = some x ∧ w.cells? base (a.add (i * P.cellsOf e)) (P.cellsOf e) = some cs' ∧ DataW.trod enc P w base spare held fuel e cs' = some x := by
          intro i hi
          have := hE i hi
          rw [List.getElem?_eq_getElem (by omega)] at this ⊢
          obtain ⟨cs', c1, c2⟩ := Option.bind_eq_some_iff.1 this
          exact ⟨_, cs', rfl, c1, c2⟩
        have hrow : ∀ (i : Nat) (x : DataW H × List MemPlace), elems[i]? = some x → i < len ∧ FitL (s :: r) (dcells x.1) ∧ ∃ cs', w.cells? base (a.add (i * P.cellsOf e)) (P.cellsOf e) = some cs' ∧ RepC w cs' (dcells x.1) := by
          intro i x hx
          have hi : i < len := by rw [← hel]; exact (List.getElem?_eq_some_iff.1 hx).1
          obtain ⟨x', cs', e1, e2, e3⟩ := hI i hi
          rw [hx] at e1; cases e1
          obtain ⟨q1, q2, q3⟩ := open_trod fuel e n (s :: r) he cs' x.1 x.2 e3
          exact ⟨hi, q1, cs', e2, q3⟩
        have hfit : Fit (.slice (s :: r)) (.ro (drows (elems.map (·.1)))) := by
          rw [drows_map]
          have : ∀ q ∈ (elems.map (·.1)).map dcells, FitL (s :: r) q := by
            intro q hq
            simp only [List.map_map, List.mem_map] at hq
            obtain ⟨x, hx, rfl⟩ := hq
            obtain ⟨i, hi, hx⟩ := List.mem_iff_getElem.1 hx
            exact (hrow i x (by rw [← hx]; simp [hi])).2.1
          exact .slice _ _ (fun q hq => (this q hq).1) (fun q hq => (this q hq).2)
        refine ⟨.one hfit, rfl, .one rfl ?_⟩
        cases hz : len with
        | zero =>
          rw [hz] at hel
          have : elems = [] := by simpa using hel
          subst this
          exact .ro0 _ _ _
        | succ len' =>
          obtain ⟨x0, cs0, y1, y2, y3⟩ := hI 0 (by omega)
          obtain ⟨_, z1, z2⟩ := World.cells?_some y2
          have hcell : ∃ v, w.cell? a = some v := by
            have := z2 0 (by omega)
            rw [List.getElem?_eq_getElem (by omega)] at this
            have e0 : (a.add (0 * P.cellsOf e)).add 0 = a := by simp [Addr.add]
            rw [e0] at this
            exact ⟨_, this⟩
          obtain ⟨v0, hv0⟩ := hcell
          have hsp := World.cell?_spot hv0
          have hsz : a.block < w.heap.size := by
            have := World.cells?_block y2 (by omega)
            simpa [Addr.add] using this
          obtain ⟨blk, off, spot⟩ := a
          simp only at hsp hsz
          subst hsp
          rw [← hz]
          have hlen : (drows (elems.map (·.1))).length = len := by rw [drows_map]; simp [hel]
          have key : ∀ (i : Nat) (row : List PV) (j : Nat) (pv : PV), (drows (elems.map (·.1)))[i]? = some row → row[j]? = some pv → ∃ v, cellAt w blk (off + i * P.cellsOf e + j) = some v ∧ v.oneCell' = true ∧ Rep w noX noRefs pv v := by
            intro i row j pv hi hj
            rw [drows_map] at hi
            simp only [List.map_map, List.getElem?_map, Option.map_eq_some_iff] at hi
            obtain ⟨x, hx, rfl⟩ := hi
            obtain ⟨hi, hf, cs', h1, h2⟩ := hrow i x hx
            obtain ⟨v, v1, v2, v3⟩ := h2 j pv hj
            refine ⟨v, ?_, v2, v3⟩
            obtain ⟨_, u1, u2⟩ := World.cells?_some h1
            have hjl : j < P.cellsOf e := by rw [← u1]; exact (List.getElem?_eq_some_iff.1 v1).1
            have := u2 j hjl
            rw [add_add (⟨blk, off, none⟩ : Addr) rfl (i * P.cellsOf e), add_add _ rfl j, cell?_eq, v1] at this
            exact this
          have := Rep.ro (w := w) (X := noX) noRefs blk off (P.cellsOf e) (drows (elems.map (·.1))) cap (fun i j => (cellAt w blk (off + i * P.cellsOf e + j)).getD Go.undef) (fun h => h) hsz (by omega)
            (fun i row hi => by
              rw [drows_map] at hi
              simp only [List.map_map, List.getElem?_map, Option.map_eq_some_iff] at hi
              obtain ⟨x, hx, rfl⟩ := hi
              rw [hc]
              exact (hrow i x hx).2.1.1)
            (fun i row j pv hi hj => by
              obtain ⟨v, v1, v2, _⟩ := key i row j pv hi hj
              rw [v1]
              exact ⟨rfl, v2⟩)
            (fun i row j pv hi hj => by
              obtain ⟨v, v1, _, v3⟩ := key i row j pv hi hj
              simp only [v1]
              exact v3)
          rwa [hlen] at this
    · rename_i fs ht
      split at hs <;> first | (cases hs; done) | skip
      rename_i m hm
      split at hs <;> cases hs
      rename_i hb
      have hc := Nat.eq_of_beq_eq_true hb
      obtain ⟨xs, q, hq, e, h1, h2, h3⟩ := DataW.trod_struct ht h
      cases e
      cases hq
      obtain ⟨a1, _, a3⟩ := open_fields (fun t l => open_trod fuel t n l) fs.toList 0 _ xs cs hm (by simpa using h2) (fun i f hf => h3 i f (by simpa using hf))
      exact ⟨by simpa only [dcells] using a1, by omega, by simpa only [dcells, List.drop_zero] using a3⟩
    · rename_i k e ht
      split at hs <;> first | (cases hs; done) | skip
      rename_i m hm
      split at hs <;> cases hs
      rename_i hb1 hb2
      have hc1 := Nat.eq_of_beq_eq_true hb1
      have hc2 := Nat.eq_of_beq_eq_true hb2
      obtain ⟨xs, q, hq, e1, hl, hxs, hE⟩ := DataW.trod_array ht h
      cases e1
      cases hq
      obtain ⟨a1, a3⟩ := open_elems (open_trod fuel e n m hm) hc1 k 0 xs cs hxs (fun i hi => by simpa using hE i hi)
      refine ⟨by simpa only [dcells] using a1, ?_, by simpa only [dcells, List.drop_zero] using a3⟩
      have : ∀ k, (repS m k).length = k * m.length := by
        intro k
        induction k with
        | zero => simp [repS]
        | succ k ih => simp only [repS, List.length_append, ih, Nat.add_mul]; omega
      rw [this]; omega
end
end Go.Ev
namespace Go.Proofs.YtefoleocbhkobaaGreatDoor
open Go Go.Ev
set_option linter.unusedSectionVars false
set_option linter.unusedSimpArgs false
set_option linter.unusedVariables false
inductive Bd (M : Nat) : PV → Prop where
  | str (s : List UInt8) (h : s.length ≤ M) : Bd M (.str s)
  | ro (rows : List (List PV)) (h1 : rows.length ≤ M) (h2 : ∀ r ∈ rows, ∀ p ∈ r, Bd M p) : Bd M (.ro rows)
  | int (k : IntKind) (n : Int) : Bd M (.int k n)
  | bool (b : Bool) : Bd M (.bool b)
  | any : Bd M .any
theorem Bd.strs {M : Nat} {s : List UInt8} (h : Bd M (.str s)) : s.length ≤ M := by cases h; assumption
theorem Bd.rows {M : Nat} {X : Type} {c : X → List PV} {l : List X} (h : Bd M (.ro (l.map c))) : l.length ≤ M ∧ ∀ x ∈ l, ∀ p ∈ c x, Bd M p := by
  cases h with
  | ro _ h1 h2 => exact ⟨by simpa using h1, fun x hx => h2 _ (List.mem_map_of_mem hx)⟩
mutual
theorem bd_cells {H : Type} {M : Nat} : ∀ d : DataW H, Rows.uptoBulk d ≤ M → ∀ p ∈ dcells d, Bd M p
  | .lit (.int k n), _ => by simp only [dcells, List.mem_singleton]; rintro p rfl; exact .int k n
  | .lit (.bool b), _ => by simp only [dcells, List.mem_singleton]; rintro p rfl; exact .bool b
  | .lit (.string s), h => by
    simp only [Rows.uptoBulk] at h
    simp only [dcells, List.mem_singleton]; rintro p rfl; exact .str s (by omega)
  | .lit (.float _ _), _ => by simp only [dcells, List.mem_singleton]; rintro p rfl; exact .any
  | .lit .nil, _ => by simp only [dcells, List.mem_singleton]; rintro p rfl; exact .any
  | .nil, _ => by simp only [dcells, List.mem_singleton]; rintro p rfl; exact .ro [] (Nat.zero_le _) (fun r hr => by cases hr)
  | .ptr _, _ => by simp only [dcells, List.mem_singleton]; rintro p rfl; exact .any
  | .iface _ _, _ => by simp only [dcells, List.mem_singleton]; rintro p rfl; exact .any
  | .map _, _ => by simp only [dcells, List.mem_singleton]; rintro p rfl; exact .any
  | .held _, _ => by simp only [dcells, List.mem_singleton]; rintro p rfl; exact .any
  | .slice elems spare, h => by
    simp only [Rows.uptoBulk] at h
    simp only [dcells, List.mem_singleton]; rintro p rfl
    obtain ⟨h1, h2⟩ := bd_rows (M := M) elems (by omega)
    exact .ro _ h1 h2
  | .agg parts, h => by
    simp only [Rows.uptoBulk] at h
    simp only [dcells]
    exact bd_cellsL parts (by omega)
theorem bd_cellsL {H : Type} {M : Nat} : ∀ l : List (DataW H), Rows.uptoBulkAll l ≤ M → ∀ p ∈ dcellsL l, Bd M p
  | [], _ => by simp [dcellsL]
  | d :: r, h => by
    simp only [Rows.uptoBulkAll] at h
    simp only [dcellsL, List.mem_append]
    rintro p (hp | hp)
    · exact bd_cells d (by omega) p hp
    · exact bd_cellsL r (by omega) p hp
theorem bd_rows {H : Type} {M : Nat} : ∀ l : List (DataW H), Rows.uptoBulkAll l ≤ M → (drows l).length ≤ M ∧ ∀ r ∈ drows l, ∀ p ∈ r, Bd M p
  | [], _ => ⟨Nat.zero_le _, fun r hr => by cases hr⟩
  | d :: l, h => by
    simp only [Rows.uptoBulkAll] at h
    have h1 := bulk_len (d :: l)
    simp only [Rows.uptoBulkAll] at h1
    obtain ⟨_, h3⟩ := bd_rows l (M := M) (by omega)
    refine ⟨by rw [drows_map]; simp only [List.length_map]; omega, ?_⟩
    simp only [drows, List.mem_cons]
    rintro r (rfl | hr)
    · exact bd_cells d (by omega)
    · exact h3 r hr
theorem bulk_len {H : Type} : ∀ l : List (DataW H), l.length ≤ Rows.uptoBulkAll l
  | [] => Nat.zero_le _
  | d :: r => by
    have := bulk_len r
    have := bulk_one d
    simp only [Rows.uptoBulkAll, List.length_cons]; omega
theorem bulk_one {H : Type} : ∀ d : DataW H, 1 ≤ Rows.uptoBulk d
  | .lit (.string _) => by simp [Rows.uptoBulk]
  | .lit (.int _ _) | .lit (.bool _) | .lit (.float _ _) | .lit .nil | .nil | .held _ => by simp [Rows.uptoBulk]
  | .ptr _ | .iface _ _ | .map _ | .slice _ _ | .agg _ => by simp [Rows.uptoBulk]
end
section
variable {H : Type} {enc : TypeId × Value → H} {P : Program} {w : World} {base : Nat} {spare : Nat → Bool} {held : Bool}
theorem rep_agg {cs : Array Value} {pvs : List PV} (hl : cs.size = pvs.length) (h : RepC w cs.toList pvs) : Rep w noX noRefs (.agg pvs) (.agg cs) := by
  refine .agg noRefs pvs cs hl (fun i v hv => ?_) (fun i pv v hp hv => ?_)
  · have hi : i < pvs.length := by rw [← hl]; exact (Array.getElem?_eq_some_iff.1 hv).1
    obtain ⟨u, h1, h2, _⟩ := h i pvs[i] (List.getElem?_eq_getElem hi)
    rw [Array.getElem?_toList, hv] at h1; cases h1; exact h2
  · obtain ⟨u, h1, _, h3⟩ := h i pv hp
    rw [Array.getElem?_toList, hv] at h1; cases h1; exact h3
theorem arg_agg {t : TypeId} {fs : Array Field} {n : Nat} {l : List Sh} {v : Value} {d : DataW H} {p : List MemPlace} {w' : World} {b : Nat} (ht : P.underlying t = some (.struct fs)) (hs : shapes P n t = some l)
    (hok : Value.okWide P w' .any b t v) (h : DataW.Trod enc P w base spare held t v d p) : FitL l (dcells d) ∧ CellR w noX (.agg (dcells d)) v [] := by
  simp only [Value.okWide, ht] at hok
  obtain ⟨cs, rfl, _, _⟩ := hok
  obtain ⟨fuel, hf⟩ := h
  obtain ⟨h1, h2, h3⟩ := open_trod fuel t n l hs cs.toList d p hf
  exact ⟨h1, .plain _ _ rfl (rep_agg (by rw [h1.1]; simpa using h2) h3)⟩
theorem var_rep {name : String} {g : Nat} {t : TypeId} {n : Nat} {l : List Sh} {cs : Array Value} {fuel : Nat} {d : DataW H} {p : List MemPlace} (hg : P.globalNamed name = some g)
    (hs : shapes P n t = some l) (hv : w.var? P name = some cs) (h : DataW.trod enc P w base spare held fuel t cs.toList = some (d, p)) : Rep w noX noRefs (.rptr (dcells d)) (.pointer (some ⟨g, 0, none⟩)) := by
  obtain ⟨h1, h2, h3⟩ := open_trod fuel t n l hs cs.toList d p h
  simp only [World.var?, hg, Option.bind_some] at hv
  split at hv <;> cases hv
  rename_i ty fr hw
  have hsz : g < w.heap.size := (Array.getElem?_eq_some_iff.1 hw).1
  have hc : ∀ (i : Nat) (pv : PV), (dcells d)[i]? = some pv → ∃ v, cellAt w g (0 + i) = some v ∧ v.oneCell' = true ∧ Rep w noX noRefs pv v := by
    intro i pv hi
    obtain ⟨v, v1, v2, v3⟩ := h3 i pv hi
    refine ⟨v, ?_, v2, v3⟩
    unfold cellAt
    rw [hw]
    simpa using v1
  refine .rptr noRefs g 0 (dcells d) (fun i => (cellAt w g (0 + i)).getD Go.undef) (fun h => h) hsz (fun i pv hi => ?_) (fun i pv hi => ?_)
  · obtain ⟨v, v1, v2, _⟩ := hc i pv hi
    rw [v1]; exact ⟨rfl, v2⟩
  · obtain ⟨v, v1, _, v3⟩ := hc i pv hi
    simp only [v1]; exact v3
end
end Go.Proofs.YtefoleocbhkobaaGreatDoor
namespace Go.Proofs.YtefoleocbhkobaaGreatDoor
open Go Go.Ev
set_option linter.unusedSectionVars false
set_option linter.unusedSimpArgs false
set_option linter.unusedVariables false
abbrev sI : Sh := .int .i64
def shSt : List Sh := [sI, sI, sI]
def shPl : List Sh := [.str, .str, sI, sI, sI]
def shInf : List Sh := [sI, .slice [sI], .bool]
def shLe : List Sh := [sI, sI, sI, sI, sI]
def shRw : List Sh := [sI, sI, sI, sI, sI, sI, sI]
def shDr : List Sh := [.slice shPl, .slice shInf, sI, .slice shLe, .slice shSt, sI, sI, sI, sI, sI, sI, sI, sI, sI, sI, sI, .str, .slice [.str], sI, sI, sI, .str, .str, .slice [sI], sI, sI, sI, .slice [sI], .slice shRw]
theorem _root_.Go.Ev.Fit.i {k : IntKind} {p : PV} (h : Fit (.int k) p) : ∃ n, p = .int k n := by cases h; exact ⟨_, rfl⟩
theorem _root_.Go.Ev.Fit.b {p : PV} (h : Fit .bool p) : ∃ b, p = .bool b := by cases h; exact ⟨_, rfl⟩
theorem _root_.Go.Ev.Fit.s {p : PV} (h : Fit .str p) : ∃ s, p = .str s := by cases h; exact ⟨_, rfl⟩
theorem int_of (r : List PV) (h : FitL [sI] r) : ∃ n : Int, r = rowI n := by
  obtain ⟨p, q, rfl, h1, h2⟩ := h.cons
  obtain ⟨n, rfl⟩ := h1.i
  have := h2.done
  subst this
  exact ⟨n, rfl⟩
theorem text_of (r : List PV) (h : FitL [.str] r) : ∃ s : List UInt8, r = [.str s] := by
  obtain ⟨p, q, rfl, h1, h2⟩ := h.cons
  obtain ⟨n, rfl⟩ := h1.s
  have := h2.done
  subst this
  exact ⟨n, rfl⟩
theorem st_of (r : List PV) (h : FitL shSt r) : ∃ s : St, r = s.cells := by
  obtain ⟨_, _, rfl, g1, h1_⟩ := h.cons; obtain ⟨a, rfl⟩ := g1.i
  obtain ⟨_, _, rfl, g2, h2_⟩ := h1_.cons; obtain ⟨b, rfl⟩ := g2.i
  obtain ⟨_, _, rfl, g3, h3_⟩ := h2_.cons; obtain ⟨c, rfl⟩ := g3.i
  have := h3_.done; subst this
  exact ⟨⟨a, b, c⟩, rfl⟩
theorem pl_of (r : List PV) (h : FitL shPl r) : ∃ s : Pl, r = s.cells := by
  obtain ⟨_, _, rfl, g1, h1_⟩ := h.cons; obtain ⟨a, rfl⟩ := g1.s
  obtain ⟨_, _, rfl, g2, h2_⟩ := h1_.cons; obtain ⟨b, rfl⟩ := g2.s
  obtain ⟨_, _, rfl, g3, h3_⟩ := h2_.cons; obtain ⟨c, rfl⟩ := g3.i
  obtain ⟨_, _, rfl, g4, h4_⟩ := h3_.cons; obtain ⟨d, rfl⟩ := g4.i
  obtain ⟨_, _, rfl, g5, h5_⟩ := h4_.cons; obtain ⟨e, rfl⟩ := g5.i
  have := h5_.done; subst this
  exact ⟨⟨a, b, c, d, e⟩, rfl⟩
theorem inf_of (r : List PV) (h : FitL shInf r) : ∃ s : Inf, r = infRow s := by
  obtain ⟨_, _, rfl, g1, h1_⟩ := h.cons; obtain ⟨a, rfl⟩ := g1.i
  obtain ⟨_, _, rfl, g2, h2_⟩ := h1_.cons; obtain ⟨b, rfl⟩ := g2.rowsOf rowI int_of
  obtain ⟨_, _, rfl, g3, h3_⟩ := h2_.cons; obtain ⟨c, rfl⟩ := g3.b
  have := h3_.done; subst this
  exact ⟨⟨a, b, c⟩, rfl⟩
theorem le_of (r : List PV) (h : FitL shLe r) : ∃ s : Le, r = s.cells := by
  obtain ⟨_, _, rfl, g1, h1_⟩ := h.cons; obtain ⟨a, rfl⟩ := g1.i
  obtain ⟨_, _, rfl, g2, h2_⟩ := h1_.cons; obtain ⟨b, rfl⟩ := g2.i
  obtain ⟨_, _, rfl, g3, h3_⟩ := h2_.cons; obtain ⟨c, rfl⟩ := g3.i
  obtain ⟨_, _, rfl, g4, h4_⟩ := h3_.cons; obtain ⟨d, rfl⟩ := g4.i
  obtain ⟨_, _, rfl, g5, h5_⟩ := h4_.cons; obtain ⟨e, rfl⟩ := g5.i
  have := h5_.done; subst this
  exact ⟨⟨a, b, ⟨c, d, e⟩⟩, rfl⟩
theorem rw_of (r : List PV) (h : FitL shRw r) : ∃ s : Rw, r = s.cells := by
  obtain ⟨_, _, rfl, g1, h1_⟩ := h.cons; obtain ⟨a, rfl⟩ := g1.i
  obtain ⟨_, _, rfl, g2, h2_⟩ := h1_.cons; obtain ⟨b, rfl⟩ := g2.i
  obtain ⟨_, _, rfl, g3, h3_⟩ := h2_.cons; obtain ⟨c, rfl⟩ := g3.i
  obtain ⟨_, _, rfl, g4, h4_⟩ := h3_.cons; obtain ⟨d, rfl⟩ := g4.i
  obtain ⟨_, _, rfl, g5, h5_⟩ := h4_.cons; obtain ⟨e, rfl⟩ := g5.i
  obtain ⟨_, _, rfl, g6, h6_⟩ := h5_.cons; obtain ⟨f, rfl⟩ := g6.i
  obtain ⟨_, _, rfl, g7, h7_⟩ := h6_.cons; obtain ⟨g, rfl⟩ := g7.i
  have := h7_.done; subst this
  exact ⟨⟨a, b, c, ⟨d, e, f⟩, g⟩, rfl⟩
theorem dr_of (r : List PV) (h : FitL shDr r) : ∃ d : Dr, r = d.cellsL := by
  obtain ⟨_, _, rfl, g1, h1_⟩ := h.cons; obtain ⟨places, rfl⟩ := g1.rowsOf Pl.cells pl_of
  obtain ⟨_, _, rfl, g2, h2_⟩ := h1_.cons; obtain ⟨cells, rfl⟩ := g2.rowsOf infRow inf_of
  obtain ⟨_, _, rfl, g3, h3_⟩ := h2_.cons; obtain ⟨next, rfl⟩ := g3.i
  obtain ⟨_, _, rfl, g4, h4_⟩ := h3_.cons; obtain ⟨leases, rfl⟩ := g4.rowsOf Le.cells le_of
  obtain ⟨_, _, rfl, g5, h5_⟩ := h4_.cons; obtain ⟨lows, rfl⟩ := g5.rowsOf St.cells st_of
  obtain ⟨_, _, rfl, g6, h6_⟩ := h5_.cons; obtain ⟨m1, rfl⟩ := g6.i
  obtain ⟨_, _, rfl, g7, h7_⟩ := h6_.cons; obtain ⟨m2, rfl⟩ := g7.i
  obtain ⟨_, _, rfl, g8, h8_⟩ := h7_.cons; obtain ⟨m3, rfl⟩ := g8.i
  obtain ⟨_, _, rfl, g9, h9_⟩ := h8_.cons; obtain ⟨j1, rfl⟩ := g9.i
  obtain ⟨_, _, rfl, g10, h10_⟩ := h9_.cons; obtain ⟨j2, rfl⟩ := g10.i
  obtain ⟨_, _, rfl, g11, h11_⟩ := h10_.cons; obtain ⟨j3, rfl⟩ := g11.i
  obtain ⟨_, _, rfl, g12, h12_⟩ := h11_.cons; obtain ⟨j4, rfl⟩ := g12.i
  obtain ⟨_, _, rfl, g13, h13_⟩ := h12_.cons; obtain ⟨j5, rfl⟩ := g13.i
  obtain ⟨_, _, rfl, g14, h14_⟩ := h13_.cons; obtain ⟨j6, rfl⟩ := g14.i
  obtain ⟨_, _, rfl, g15, h15_⟩ := h14_.cons; obtain ⟨j7, rfl⟩ := g15.i
  obtain ⟨_, _, rfl, g16, h16_⟩ := h15_.cons; obtain ⟨j8, rfl⟩ := g16.i
  obtain ⟨_, _, rfl, g17, h17_⟩ := h16_.cons; obtain ⟨key, rfl⟩ := g17.s
  obtain ⟨_, _, rfl, g18, h18_⟩ := h17_.cons; obtain ⟨parts, rfl⟩ := g18.rowsOf (fun s => [.str s]) text_of
  obtain ⟨_, _, rfl, g19, h19_⟩ := h18_.cons; obtain ⟨k1, rfl⟩ := g19.i
  obtain ⟨_, _, rfl, g20, h20_⟩ := h19_.cons; obtain ⟨k2, rfl⟩ := g20.i
  obtain ⟨_, _, rfl, g21, h21_⟩ := h20_.cons; obtain ⟨k3, rfl⟩ := g21.i
  obtain ⟨_, _, rfl, g22, h22_⟩ := h21_.cons; obtain ⟨lo, rfl⟩ := g22.s
  obtain ⟨_, _, rfl, g23, h23_⟩ := h22_.cons; obtain ⟨hi, rfl⟩ := g23.s
  obtain ⟨_, _, rfl, g24, h24_⟩ := h23_.cons; obtain ⟨wait, rfl⟩ := g24.rowsOf rowI int_of
  obtain ⟨_, _, rfl, g25, h25_⟩ := h24_.cons; obtain ⟨t1, rfl⟩ := g25.i
  obtain ⟨_, _, rfl, g26, h26_⟩ := h25_.cons; obtain ⟨t2, rfl⟩ := g26.i
  obtain ⟨_, _, rfl, g27, h27_⟩ := h26_.cons; obtain ⟨t3, rfl⟩ := g27.i
  obtain ⟨_, _, rfl, g28, h28_⟩ := h27_.cons; obtain ⟨members, rfl⟩ := g28.rowsOf rowI int_of
  obtain ⟨_, _, rfl, g29, h29_⟩ := h28_.cons; obtain ⟨opened, rfl⟩ := g29.rowsOf Rw.cells rw_of
  have := h29_.done; subst this
  exact ⟨⟨places, cells, next, leases, lows, ⟨m1, m2, m3⟩, ⟨j1, j2, j3, j4, j5, j6, j7, j8, key, parts, k1, k2, k3, lo, hi, wait, ⟨t1, t2, t3⟩, members⟩, opened⟩, rfl⟩
theorem dr_small {M : Nat} (d : Dr) (h : ∀ p ∈ d.cellsL, Bd M p) : d.small M ∧ d.cells.length ≤ M ∧ d.lows.length ≤ M ∧ d.job.parts.length ≤ M := by
  simp only [Dr.cellsL, Jb.cells, List.cons_append, List.nil_append, List.mem_cons, List.not_mem_nil, or_false, forall_eq_or_imp, forall_eq] at h
  obtain ⟨a1, a2, _, a4, a5, _, _, _, _, _, _, _, _, _, _, _, _, a6, _, _, _, _, _, a7, _, _, _, a8, a9⟩ := h
  refine ⟨⟨a1.rows.1, fun p hp => ?_, a4.rows.1, a7.rows.1, a8.rows.1, a9.rows.1, fun c hc => ?_⟩, a2.rows.1, a5.rows.1, a6.rows.1⟩
  · have := a1.rows.2 p hp
    exact ⟨(this (.str p.lo) (by simp [Pl.cells])).strs, (this (.str p.hi) (by simp [Pl.cells])).strs⟩
  · exact (a2.rows.2 c hc (.ro (c.members.map rowI)) (by simp [infRow])).rows.1
theorem shapes36 : shapes Tryz.prog 8 36 = some shDr := by kernel_rfl
end Go.Proofs.YtefoleocbhkobaaGreatDoor
namespace Go.Proofs.YtefoleocbhkobaaGreatDoor
open Go Go.Ev Go.ChangeShapes Go.WideShapes Go.ChangeAt Go.RowKit
set_option linter.unusedSectionVars false
set_option linter.unusedSimpArgs false
set_option linter.unusedVariables false
theorem own : ownKnob Tryz.prog.godebug = none := by kernel_rfl
theorem laidOut : laidOutB Tryz.prog = true := by kernel_rfl
theorem true_any {f : FuncId} {args : List PV} (h : AnsOK Tryz.prog glob [0, 1] f args (.bool true)) (w : World) (vs : Array Value) (hg : ∀ g ∈ [0, 1], Rep w noX noRefs (.rptr (glob g)) (.pointer (some ⟨g, 0, none⟩)))
    (hv : ListR w noX args vs.toList []) : Calls Tryz.prog f vs w fun e w' => e = .returned (.bool true) ∧ Grow w noX w' := by
  refine (h noX w vs [] (fun _ h => h.elim) (fun _ h => by cases h) List.nodup_nil hg hv).mono ?_
  rintro e w' ⟨v, rfl, hG, Z', ks', _, _, _, _, hr⟩
  refine ⟨?_, ⟨hG.size, fun k hk _ => hG.same k hk (fun h => by cases h), hG.shape, hG.os, hG.tape, hG.output, hG.froz⟩⟩
  cases hr with
  | one _ _ _ _ hc => cases hc with
    | plain _ _ _ hp => cases hp; rfl
theorem below_of {w w' : World} (h : Grow w noX w') : Below w.heap.size w w' := ⟨h.os, h.tape, h.output, h.size, fun k hk => h.same k hk id⟩
theorem gFirst : Tryz.prog.globalNamed "unicode/utf8.first" = some 0 := by kernel_rfl
theorem gRanges : Tryz.prog.globalNamed "unicode/utf8.acceptRanges" = some 1 := by kernel_rfl
theorem tFirst : ∃ t, (Tryz.prog.globals[0]?).map (·.type) = some t ∧ shapes Tryz.prog 8 t = some (List.replicate 256 (.int .u8)) := by
  refine ⟨_, rfl, ?_⟩
  kernel_rfl
theorem tRanges : ∃ t, (Tryz.prog.globals[1]?).map (·.type) = some t ∧ shapes Tryz.prog 8 t = some (List.replicate 32 (.int .u8)) := by
  refine ⟨_, rfl, ?_⟩
  kernel_rfl
theorem dFirst : dcells Rows.laid_unicode_utf8_first = utf8first := by kernel_rfl
theorem dRanges : dcells (Rows.laid_unicode_utf8_acceptRanges : DataW Unit) = utf8ranges := by kernel_rfl
abbrev tables : List (String × DataW Unit) := [("unicode/utf8.acceptRanges", Rows.laid_unicode_utf8_acceptRanges), ("unicode/utf8.first", Rows.laid_unicode_utf8_first)]
theorem globs {W : World} (h : laidMetH Tryz.prog tables W) : ∀ g ∈ [0, 1], Rep W noX noRefs (.rptr (glob g)) (.pointer (some ⟨g, 0, none⟩)) := by
  rw [MakeChecks.laidMetH_plain _ _ _ (by kernel_rfl)] at h
  obtain ⟨ps, ⟨g1, t1, cs1, f1, p1, q1, hg1, ht1, hv1, hd1, ⟨g0, t0, cs0, f0, p0, q0, hg0, ht0, hv0, hd0, _, _⟩, _⟩, _, _⟩ := h
  obtain rfl := Option.some.inj (gRanges.symm.trans hg1)
  obtain rfl := Option.some.inj (gFirst.symm.trans hg0)
  obtain ⟨t, e1, s1⟩ := tRanges
  obtain rfl := Option.some.inj (e1.symm.trans ht1)
  obtain ⟨t, e0, s0⟩ := tFirst
  obtain rfl := Option.some.inj (e0.symm.trans ht0)
  have r1 := var_rep gRanges s1 hv1 hd1
  have r0 := var_rep gFirst s0 hv0 hd0
  rw [dRanges] at r1
  rw [dFirst] at r0
  intro g hg
  simp only [List.mem_cons, List.not_mem_nil, or_false] at hg
  rcases hg with rfl | rfl
  · exact r0
  · exact r1
noncomputable abbrev laidWorld (os : Os) : World := World.laidAll Tryz.prog os tables
theorem laid_met (os : Os) (args : Array Value) : laidMetH Tryz.prog tables ((laidWorld os).forCall (fun _ _ => 0) ⟨#[], args, []⟩).memory := by
  rw [MakeChecks.laidMetH_plain _ _ _ (by kernel_rfl)]
  exact laidMet_laidAll _ (by kernel_rfl) (by kernel_rfl)
def vNil : Value := .slice none 0 0
def vI : Value := .int .i64 0
def vS : Value := .string ⟨#[]⟩
def zDr : Value := .agg #[vNil, vNil, vI, vNil, vNil, vI, vI, vI, vI, vI, vI, vI, vI, vI, vI, vI, vS, vNil, vI, vI, vI, vS, vS, vNil, vI, vI, vI, vNil, vNil]
def lI {H : Type} : DataW H := .lit (.int .i64 0)
def lS {H : Type} : DataW H := .lit (.string [])
def zDrD {H : Type} : DataW H := .agg [.nil, .nil, lI, .nil, .nil, .agg [lI, lI, lI], .agg [lI, lI, lI, lI, lI, lI, lI, lI, lS, .nil, lI, lI, lI, .agg [lS, lS], .nil, .agg [lI, lI, lI], .nil], .nil]
end Go.Proofs.YtefoleocbhkobaaGreatDoor
namespace Go.Proofs.YtefoleocbhkobaaGreatDoor
open Go Go.Ev Go.ChangeShapes Go.WideShapes Go.ChangeAt Go.RowKit
set_option linter.unusedSectionVars false
set_option linter.unusedSimpArgs false
set_option linter.unusedVariables false
set_option maxRecDepth 100000 in
theorem news_contract (H : Type) (enc : TypeId × Value → H) (W : World) (base : Nat) (args : Array Value) (ds gs : List (DataW H)) (before : List MemPlace)
    (hval : ∀ (j : Nat) t v, Tryz.f3.params[j]? = some t → args[j]? = some v → Value.okWide Tryz.prog W .any base t v)
    (hW : DataW.Whole enc Tryz.prog Tryz.f3.params.toList Rows.directorNewsSpec.vars false W args.toList ds gs before) (hk : Rows.uptoSmall H (ds ++ gs) = true) (hL : laidMetH Tryz.prog tables W) :
    Calls Tryz.prog 3 args W fun e W' => ∃ v, e = .returned v ∧ Rows.directorNewsSpec.post enc Tryz.prog Tryz.f3 false true false false W args v W' := by
  have hW' := hW
  obtain ⟨p, q, hA0, hV, rfl, hfz, hnd⟩ := hW
  have hA : DataW.TrodAll enc Tryz.prog W 0 (fun _ => true) true Tryz.f3.params.toList args.toList ds p := hA0
  rw [Tryz.params3] at hA hval
  obtain ⟨v0, vs0, d0, ds0, p0, q0, hargs, rfl, rfl, h0, r0⟩ := trodAll_cons hA
  obtain ⟨rfl, rfl, rfl⟩ := trodAll_nil r0
  obtain rfl : args = #[v0] := by cases args; simp_all
  obtain ⟨rfl, rfl⟩ := trodVars_none hV
  obtain ⟨f1, c1⟩ := arg_agg (n := 8) (l := shDr) Tryz.underlying36 shapes36 (hval 0 36 v0 rfl rfl) h0
  obtain ⟨d, hd⟩ := dr_of _ f1
  have hb := of_decide_eq_true hk
  simp only [List.append_nil, Rows.uptoBulkAll, Nat.add_zero] at hb
  have hB := bd_cells d0 hb
  rw [hd] at hB c1
  obtain ⟨s1, s2, _, _⟩ := dr_small d hB
  obtain ⟨N, hN⟩ : ∃ N, 10 * 1048576 + 200 ≤ N := ⟨_, Nat.le_refl _⟩
  have hcall := true_any (ans (news_ok (N := N) d (by omega) s1 s2 hN)) W #[v0] (globs hL) (.cons _ _ [] _ _ [] c1 .nil)
  simp only [List.append_nil] at hW'
  have hlt : ∀ x ∈ p0, x.block < W.heap.size := fun x hx => by simpa using hW'.lt x hx
  refine hcall.mono fun e W' ⟨he, hg⟩ => ?_
  subst he
  have hbel := below_of hg
  exact ⟨_, rfl, post_of_same (pa := p0) (pv := []) hW' (fun _ _ _ => trodAll_cons_mk (shut_bool Tryz.underlying4 _) trodAll_mk0)
    (fun sp hsp => trodAll_mk1 (WideElems.Trod_stays (sp' := sp) laidOut (by kernel_rfl) (of_decide_eq_true (by kernel_rfl)) h0 (fun x hx => hbel.same (hlt x hx)) (fun x hx => hsp x (by simpa using hx)))) (fun _ _ => rfl) (by simp)
    (hbel.frame _) hg.froz (ok_one (by kernel_rfl) rfl (okWide_bool_mk Tryz.underlying4 _))⟩
set_option maxRecDepth 100000 in
theorem news_lifted (os : Os) (started : os.Started) (H : Type) (enc : TypeId × Value → H) (F : Stop.Interp) :
    ReturnsInHanded {} Tryz.checked os 3 .any ((Rows.OpenSpec.upto Rows.directorNewsSpec).preRow enc Tryz.prog Tryz.f3 Rows.directorNewsUptoRow.domain false Rows.directorNewsUptoRow.laid) (((Rows.OpenSpec.upto Rows.directorNewsSpec).at F).post enc Tryz.prog Tryz.f3 false true false false) := by
  have hx : ∃ places, DataW.whole enc Tryz.prog ((laidWorld os).forCall (fun _ _ => 0) ⟨#[], #[zDr], []⟩).memory Tryz.f3.params.toList Rows.directorNewsSpec.vars false #[zDr].toList 8 = some ([zDrD], [], places) := ⟨[], by kernel_rfl⟩
  obtain ⟨places, hx⟩ := hx
  refine returnsInHanded_of_row (C := Tryz.checked) (s := Rows.OpenSpec.upto Rows.directorNewsSpec) own started (by kernel_rfl) Tryz.func3
    (witness_row_at (enc := enc) (C := Tryz.checked) false (laidWorld os) #[zDr] (World.laidAll_os _ _ _) (by kernel_rfl) (by kernel_rfl) (by kernel_rfl)
      (OpenSpec.preRow_of_cond 8 hx (by kernel_rfl) (fun k hk => by cases hk; kernel_rfl) (by kernel_rfl) (laid_met os _))) ?_
  intro W base args ds gs before hval hW _ hcond _ hL _ _
  exact news_contract H enc W base args ds gs before hval hW (hcond _ rfl) hL
theorem news_said : Rows.DirectorNewsUptoSaid :=
  OpenClaim.holds_of_cond 3 Tryz.f3 rfl rfl rfl rfl rfl rfl rfl ⟨rfl, rfl, rfl, rfl, rfl⟩ rfl rfl rfl rfl rfl (by kernel_rfl) Tryz.func3 (by kernel_rfl)
    (of_decide_eq_true (by kernel_rfl)) (by unfold Func.isWrapper; first | (rw [if_pos (by decide +kernel)]; kernel_rfl) | (rw [if_neg (by decide +kernel)]; exact ⟨rfl, rfl⟩))
    (fun os started H enc _ F => by rw [OpenClaim.pre_eq_preRow]; exact news_lifted os started H enc F)
theorem news_plain (f : FuncId) (fn : Func) (hf : Tryz.pinned.checked.prog.funcNamed "stratigraph/stratigraphlaw19.DirectorNews" = some f) (hfn : Tryz.pinned.checked.prog.funcs[f]? = some fn) :
    false = Tryz.pinned.checked.prog.looks [] ∧ ∀ (j : Nat) t, fn.params[j]? = some t → Tryz.pinned.checked.prog.wantsStandIn t = false := by
  obtain rfl : f = 3 := Option.some.inj ((show Tryz.prog.funcNamed "stratigraph/stratigraphlaw19.DirectorNews" = some 3 by kernel_rfl).symm.trans hf) |>.symm
  obtain rfl : fn = Tryz.f3 := (Option.some.inj (Tryz.func3.symm.trans hfn)).symm
  refine ⟨by kernel_rfl, fun j t ht => ?_⟩
  rw [Tryz.params3] at ht
  obtain rfl : t = 36 := by simpa using Array.mem_of_getElem? ht
  exact (show Tryz.prog.wantsStandIn 36 = false by kernel_rfl)
theorem news_card : Rows.DirectorNewsUptoCardSaid :=
  Claim7.holds_tied_plain_at .later [] _ _ _ _ news_said (fun _ h => by cases h) (by kernel_rfl) (fun _ h => by cases h) directorNewsUpto_row_tie rfl ⟨rfl, rfl⟩ (by kernel_rfl) rfl news_plain (by kernel_rfl)
#print axioms news_card
end Go.Proofs.YtefoleocbhkobaaGreatDoor

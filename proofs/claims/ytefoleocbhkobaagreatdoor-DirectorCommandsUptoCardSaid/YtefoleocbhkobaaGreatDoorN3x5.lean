/-
  Part 5 of the proof.
-/
import Derived.Test.YtefoleocbhkobaaGreatDoorN3x4
import Derived.ChangeArms
import Derived.ChangeOld
import Derived.OpenShut
import Derived.Test.YtefoleocbhkobaaGreatDoorRows
import Derived.Deep.DeepHandedRow
import Derived.Lib.LaidTab
import Derived.Carry
namespace Go.Proofs.YtefoleocbhkobaaGreatDoor
open Go Go.Ev
set_option linter.unusedSectionVars false
set_option linter.unusedSimpArgs false
set_option linter.unusedVariables false
def plainN (c : Nat) : Bool := decide ((33 : Int) ≤ c) && (decide ((c : Int) < 127) || decide ((159 : Int) < c))
def plainL : Option (Nat × Nat) → Bool
  | some (c, _) => plainN c
  | none => false
theorem plain_ok {N : Nat} (hN : 1 ≤ N) (r k : Int) : run tab prim glob N 141 [.int .i32 r, .int .i64 k] = some (.bool (decide (33 ≤ r) && (decide (r < 127) || decide (159 < r)) && (!decide (r = 65533) || decide (k = 3))), []) := by
  obtain ⟨n, rfl⟩ : ∃ n, N = n + 1 := ⟨N - 1, by omega⟩
  rw [enters (fn := c141) rfl]
  by_cases h1 : 33 ≤ r
  · by_cases h2 : r < 127
    · by_cases h4 : r = 65533
      · omega
      · simp only [go_sem, Nat.reduceAdd, Nat.reduceMul, reduceIte, Nat.reduceLeDiff, Int.reduceLE, Int.reduceLT, Int.reduceToNat, c141, o141_1, o141_2, h1, h2, h4]
    · by_cases h3 : 159 < r
      · by_cases h4 : r = 65533
        · by_cases h5 : k = 3
          · subst h4; subst h5
            simp only [go_sem, Nat.reduceAdd, Nat.reduceMul, reduceIte, Nat.reduceLeDiff, Int.reduceLE, Int.reduceLT, Int.reduceToNat, c141, o141_1, o141_2, h1, h2, h3, show (159 : Int) < 65533 by decide, show ¬ ((65533 : Int) < 127) by decide, show (33 : Int) ≤ 65533 by decide]
          · subst h4
            simp only [go_sem, Nat.reduceAdd, Nat.reduceMul, reduceIte, Nat.reduceLeDiff, Int.reduceLE, Int.reduceLT, Int.reduceToNat, c141, o141_1, o141_2, h1, h2, h3, h5, show (159 : Int) < 65533 by decide, show ¬ ((65533 : Int) < 127) by decide, show (33 : Int) ≤ 65533 by decide]
        · simp only [go_sem, Nat.reduceAdd, Nat.reduceMul, reduceIte, Nat.reduceLeDiff, Int.reduceLE, Int.reduceLT, Int.reduceToNat, c141, o141_1, o141_2, h1, h2, h3, h4]
      · simp only [go_sem, Nat.reduceAdd, Nat.reduceMul, reduceIte, Nat.reduceLeDiff, Int.reduceLE, Int.reduceLT, Int.reduceToNat, c141, o141_1, o141_2, h1, h2, h3]
  · simp only [go_sem, Nat.reduceAdd, Nat.reduceMul, reduceIte, Nat.reduceLeDiff, Int.reduceLE, Int.reduceLT, Int.reduceToNat, c141, o141_1, o141_2, h1]
theorem plain04_ok {N : Nat} (hN : 1 ≤ N) (r : Int) : run tab prim glob N 144 [.int .i64 r] = some (.bool (decide (32 < r) && !decide (r = 127) && (decide (r < 128) || decide (159 < r))), []) := by
  obtain ⟨n, rfl⟩ : ∃ n, N = n + 1 := ⟨N - 1, by omega⟩
  rw [enters (fn := c144) rfl]
  by_cases h1 : 32 < r
  · by_cases h2 : r = 127
    · subst h2
      simp only [go_sem, Nat.reduceAdd, Nat.reduceMul, reduceIte, Nat.reduceLeDiff, Int.reduceLE, Int.reduceLT, Int.reduceToNat, c144, o144_1, o144_2, h1]
    · by_cases h3 : r < 128
      · simp only [go_sem, Nat.reduceAdd, Nat.reduceMul, reduceIte, Nat.reduceLeDiff, Int.reduceLE, Int.reduceLT, Int.reduceToNat, c144, o144_1, o144_2, h1, h2, h3]
      · by_cases h4 : 159 < r
        · simp only [go_sem, Nat.reduceAdd, Nat.reduceMul, reduceIte, Nat.reduceLeDiff, Int.reduceLE, Int.reduceLT, Int.reduceToNat, c144, o144_1, o144_2, h1, h2, h3, h4]
        · simp only [go_sem, Nat.reduceAdd, Nat.reduceMul, reduceIte, Nat.reduceLeDiff, Int.reduceLE, Int.reduceLT, Int.reduceToNat, c144, o144_1, o144_2, h1, h2, h3, h4]
  · simp only [go_sem, Nat.reduceAdd, Nat.reduceMul, reduceIte, Nat.reduceLeDiff, Int.reduceLE, Int.reduceLT, Int.reduceToNat, c144, o144_1, o144_2, h1]
def letPV (s : List UInt8) : PV := match letter (nats s) with
  | some (c, k) => .tuple [.int .i64 (c : Int), .int .i64 (k : Int)]
  | none => .tuple [.int .i64 (-1), .int .i64 1]
theorem let_none {s : List UInt8} (h : letter (nats s) = none) : letPV s = .tuple [.int .i64 (-1), .int .i64 1] := by unfold letPV; rw [h]
theorem let_some {s : List UInt8} {c k : Nat} (h : letter (nats s) = some (c, k)) : letPV s = .tuple [.int .i64 (c : Int), .int .i64 (k : Int)] := by unfold letPV; rw [h]
theorem w64 {x : Int} (h1 : -1000000000000 ≤ x) (h2 : x ≤ 1000000000000) : IntKind.i64.wrap x = x := IntWalk.i64_in _ (by omega)
set_option maxHeartbeats 4000000 in
theorem letter_ok {N : Nat} (hN : 8 ≤ N) (a : UInt8) (r : List UInt8) : run tab prim glob N 143 [.str (a :: r)] = some (letPV (a :: r), []) := by
  obtain ⟨n, rfl⟩ : ∃ n, N = n + 8 := ⟨N - 8, by omega⟩
  rw [enters (n := n + 7) (fn := c143) rfl]
  have hlt := a.toNat_lt
  have z0 : (0 : Int) ≤ 0 := by decide
  have v0 : IntKind.i64.wrap (a.toNat : Int) = a.toNat := w64 (by omega) (by omega)
  by_cases c0 : a.toNat < 128
  · rw [let_some (c := a.toNat) (k := 1) (by simp only [nats, List.map_cons, letter]; rw [if_pos c0])]
    have d0 : (a.toNat : Int) < 128 := by omega
    simp only [go_sem, Nat.reduceAdd, Nat.reduceMul, reduceIte, Nat.reduceLeDiff, Int.reduceLE, Int.reduceLT, Int.reduceToNat, c143, o143_1, o143_2, o143_3, o143_4, o143_5, o143_6, o143_7, o143_8, o143_9, o143_10, o143_11, o143_12, o143_13, o143_14, o143_15, o143_16, o143_17, z0, v0, d0]
  have d0 : ¬ (a.toNat : Int) < 128 := by omega
  by_cases c1 : a.toNat < 194
  · rw [let_none (by simp [nats, letter, c0, c1])]
    have d1 : ¬ (194 ≤ (a.toNat : Int)) := by omega
    have d2 : ¬ (224 ≤ (a.toNat : Int)) := by omega
    have d3 : ¬ (240 ≤ (a.toNat : Int)) := by omega
    simp only [go_sem, Nat.reduceAdd, Nat.reduceMul, reduceIte, Nat.reduceLeDiff, Int.reduceLE, Int.reduceLT, Int.reduceToNat, c143, o143_1, o143_2, o143_3, o143_4, o143_5, o143_6, o143_7, o143_8, o143_9, o143_10, o143_11, o143_12, o143_13, o143_14, o143_15, o143_16, o143_17, z0, v0, d0, d1, d2, d3]
  have d1 : 194 ≤ (a.toNat : Int) := by omega
  by_cases c2 : a.toNat < 224
  · have d2 : (a.toNat : Int) < 224 := by omega
    have v1 : IntKind.i64.wrap ((a.toNat : Int) - 192) = (a.toNat : Int) - 192 := w64 (by omega) (by omega)
    match r with
    | [] =>
      rw [let_none (by simp [nats, letter, c0, c1, c2])]
      have z1 : ((2 : Int) = 0) = False := by decide
      have z2 : (1 : Int) < 2 := by decide
      simp only [go_sem, Nat.reduceAdd, Nat.reduceMul, reduceIte, Nat.reduceLeDiff, Int.reduceLE, Int.reduceLT, Int.reduceToNat, c143, o143_1, o143_2, o143_3, o143_4, o143_5, o143_6, o143_7, o143_8, o143_9, o143_10, o143_11, o143_12, o143_13, o143_14, o143_15, o143_16, o143_17, z0, z1, z2, v0, v1, d0, d1, d2]
    | b :: r =>
      have hb := b.toNat_lt
      have z1 : ((2 : Int) = 0) = False := by decide
      have z2 : (1 : Int) < 2 := by decide
      have z3 : ¬ (2 : Int) < 2 := by decide
      have z4 : (0 : Int) ≤ 1 := by decide
      have z5 : IntKind.i64.wrap (1 + 1) = 2 := by decide
      have l1 : ¬ (((r.length + 1 + 1 : Nat) : Int) < 2) := by omega
      have v2 : IntKind.i64.wrap (64 * ((a.toNat : Int) - 192)) = 64 * ((a.toNat : Int) - 192) := w64 (by omega) (by omega)
      have v3 : IntKind.i64.wrap (b.toNat : Int) = b.toNat := w64 (by omega) (by omega)
      have v4 : IntKind.i64.wrap (64 * ((a.toNat : Int) - 192) + b.toNat) = 64 * ((a.toNat : Int) - 192) + b.toNat := w64 (by omega) (by omega)
      have v5 : IntKind.i64.wrap (64 * ((a.toNat : Int) - 192) + b.toNat - 128) = 64 * ((a.toNat : Int) - 192) + b.toNat - 128 := w64 (by omega) (by omega)
      have q1 := contB_eq b.toNat
      by_cases k1 : (b.toNat : Int) < 128
      · rw [let_none (by
          simp only [nats, List.map_cons, letter]
          rw [if_neg c0, if_neg c1, if_pos c2, if_neg (by rw [contB_iff]; omega)])]
        simp only [go_sem, Nat.reduceAdd, Nat.reduceMul, reduceIte, Nat.reduceLeDiff, Int.reduceLE, Int.reduceLT, Int.reduceToNat, mentL, ment, ment1, evGh, keepE, keepH, c143, o143_1, o143_2, o143_3, o143_4, o143_5, o143_6, o143_7, o143_8, o143_9, o143_10, o143_11, o143_12, o143_13, o143_14, o143_15, o143_16, o143_17, b143_1, ob143_1_1, ob143_1_2, ob143_1_3, ob143_1_4, ob143_1_5, iter, z0, z1, z2, z3, z4, z5, v0, v1, v2, v3, v4, v5, d0, d1, d2, l1, k1]
      · by_cases k2 : 191 < (b.toNat : Int)
        · rw [let_none (by
            simp only [nats, List.map_cons, letter]
            rw [if_neg c0, if_neg c1, if_pos c2, if_neg (by rw [contB_iff]; omega)])]
          simp only [go_sem, Nat.reduceAdd, Nat.reduceMul, reduceIte, Nat.reduceLeDiff, Int.reduceLE, Int.reduceLT, Int.reduceToNat, mentL, ment, ment1, evGh, keepE, keepH, c143, o143_1, o143_2, o143_3, o143_4, o143_5, o143_6, o143_7, o143_8, o143_9, o143_10, o143_11, o143_12, o143_13, o143_14, o143_15, o143_16, o143_17, b143_1, ob143_1_1, ob143_1_2, ob143_1_3, ob143_1_4, ob143_1_5, iter, z0, z1, z2, z3, z4, z5, v0, v1, v2, v3, v4, v5, d0, d1, d2, l1, k1, k2]
        · rw [let_some (c := (a.toNat - 192) * 64 + (b.toNat - 128)) (k := 2) (by
            simp only [nats, List.map_cons, letter]
            rw [if_neg c0, if_neg c1, if_pos c2, if_pos (by rw [contB_iff]; omega)])]
          have e1 : ¬ (64 * ((a.toNat : Int) - 192) + b.toNat - 128 < 128) := by omega
          have e2 : ¬ (1114111 < 64 * ((a.toNat : Int) - 192) + b.toNat - 128) := by omega
          have e3 : ¬ (55296 ≤ 64 * ((a.toNat : Int) - 192) + b.toNat - 128) := by omega
          have e4 : 64 * ((a.toNat : Int) - 192) + b.toNat - 128 = (((a.toNat - 192) * 64 + (b.toNat - 128) : Nat) : Int) := by omega
          simp only [go_sem, Nat.reduceAdd, Nat.reduceMul, reduceIte, Nat.reduceLeDiff, Int.reduceLE, Int.reduceLT, Int.reduceToNat, mentL, ment, ment1, evGh, keepE, keepH, c143, o143_1, o143_2, o143_3, o143_4, o143_5, o143_6, o143_7, o143_8, o143_9, o143_10, o143_11, o143_12, o143_13, o143_14, o143_15, o143_16, o143_17, b143_1, ob143_1_1, ob143_1_2, ob143_1_3, ob143_1_4, ob143_1_5, iter, z0, z1, z2, z3, z4, z5, v0, v1, v2, v3, v4, v5, d0, d1, d2, l1, k1, k2, e1, e2, e3]
          rw [e4]
  have d2 : ¬ (a.toNat : Int) < 224 := by omega
  have d2' : 224 ≤ (a.toNat : Int) := by omega
  by_cases c3 : a.toNat < 240
  · have d3 : (a.toNat : Int) < 240 := by omega
    have z1 : ((3 : Int) = 0) = False := by decide
    have y1 : (1 : Int) < 3 := by decide
    have y2 : (2 : Int) < 3 := by decide
    have y3 : ¬ (3 : Int) < 3 := by decide
    have x0 : (0 : Int) ≤ 0 := by decide
    have x1 : (0 : Int) ≤ 1 := by decide
    have x2 : (0 : Int) ≤ 2 := by decide
    have x3 : (0 : Int) ≤ 3 := by decide
    have u1 : IntKind.i64.wrap (1 + 1) = 2 := by decide
    have u2 : IntKind.i64.wrap (2 + 1) = 3 := by decide
    have v1 : IntKind.i64.wrap ((a.toNat : Int) - 224) = (a.toNat : Int) - 224 := w64 (by omega) (by omega)
    match r with
    | [] =>
      rw [let_none (by simp [nats, letter, c0, c1, c2, c3])]
      simp only [go_sem, Nat.reduceAdd, Nat.reduceMul, reduceIte, Nat.reduceLeDiff, Int.reduceLE, Int.reduceLT, Int.reduceToNat, c143, o143_1, o143_2, o143_3, o143_4, o143_5, o143_6, o143_7, o143_8, o143_9, o143_10, o143_11, o143_12, o143_13, o143_14, o143_15, o143_16, o143_17, z0, z1, y1, v0, v1, d0, d1, d2, d2', d3]
    | [b] =>
      rw [let_none (by simp [nats, letter, c0, c1, c2, c3])]
      simp only [go_sem, Nat.reduceAdd, Nat.reduceMul, reduceIte, Nat.reduceLeDiff, Int.reduceLE, Int.reduceLT, Int.reduceToNat, c143, o143_1, o143_2, o143_3, o143_4, o143_5, o143_6, o143_7, o143_8, o143_9, o143_10, o143_11, o143_12, o143_13, o143_14, o143_15, o143_16, o143_17, z0, z1, y2, v0, v1, d0, d1, d2, d2', d3]
    | b :: c :: r =>
      have hb := b.toNat_lt
      have hc := c.toNat_lt
      have l1 : ¬ (((r.length + 1 + 1 + 1 : Nat) : Int) < 3) := by omega
      have v2 : IntKind.i64.wrap (64 * ((a.toNat : Int) - 224)) = 64 * ((a.toNat : Int) - 224) := w64 (by omega) (by omega)
      have v3 : IntKind.i64.wrap (b.toNat : Int) = b.toNat := w64 (by omega) (by omega)
      have v4 : IntKind.i64.wrap (64 * ((a.toNat : Int) - 224) + b.toNat) = 64 * ((a.toNat : Int) - 224) + b.toNat := w64 (by omega) (by omega)
      have v5 : IntKind.i64.wrap (64 * ((a.toNat : Int) - 224) + b.toNat - 128) = 64 * ((a.toNat : Int) - 224) + b.toNat - 128 := w64 (by omega) (by omega)
      have v6 : IntKind.i64.wrap (64 * (64 * ((a.toNat : Int) - 224) + b.toNat - 128)) = 64 * (64 * ((a.toNat : Int) - 224) + b.toNat - 128) := w64 (by omega) (by omega)
      have v7 : IntKind.i64.wrap (c.toNat : Int) = c.toNat := w64 (by omega) (by omega)
      have v8 : IntKind.i64.wrap (64 * (64 * ((a.toNat : Int) - 224) + b.toNat - 128) + c.toNat) = 64 * (64 * ((a.toNat : Int) - 224) + b.toNat - 128) + c.toNat := w64 (by omega) (by omega)
      have v9 : IntKind.i64.wrap (64 * (64 * ((a.toNat : Int) - 224) + b.toNat - 128) + c.toNat - 128) = 64 * (64 * ((a.toNat : Int) - 224) + b.toNat - 128) + c.toNat - 128 := w64 (by omega) (by omega)
      by_cases kb1 : (b.toNat : Int) < 128
      · rw [let_none (by simp only [nats, List.map_cons, letter]; rw [if_neg c0, if_neg c1, if_neg c2, if_pos c3, if_neg (by simp only [Bool.and_eq_true, contB_iff]; omega)])]
        simp only [go_sem, Nat.reduceAdd, Nat.reduceMul, reduceIte, Nat.reduceLeDiff, Int.reduceLE, Int.reduceLT, Int.reduceToNat, mentL, ment, ment1, evGh, keepE, keepH, c143, o143_1, o143_2, o143_3, o143_4, o143_5, o143_6, o143_7, o143_8, o143_9, o143_10, o143_11, o143_12, o143_13, o143_14, o143_15, o143_16, o143_17, b143_1, ob143_1_1, ob143_1_2, ob143_1_3, ob143_1_4, ob143_1_5, iter, z0, z1, y1, y2, y3, x0, x1, x2, x3, u1, u2, v0, v1, v2, v3, v4, v5, v6, v7, v8, v9, d0, d1, d2, d2', d3, l1, kb1]
      by_cases kb2 : 191 < (b.toNat : Int)
      · rw [let_none (by simp only [nats, List.map_cons, letter]; rw [if_neg c0, if_neg c1, if_neg c2, if_pos c3, if_neg (by simp only [Bool.and_eq_true, contB_iff]; omega)])]
        simp only [go_sem, Nat.reduceAdd, Nat.reduceMul, reduceIte, Nat.reduceLeDiff, Int.reduceLE, Int.reduceLT, Int.reduceToNat, mentL, ment, ment1, evGh, keepE, keepH, c143, o143_1, o143_2, o143_3, o143_4, o143_5, o143_6, o143_7, o143_8, o143_9, o143_10, o143_11, o143_12, o143_13, o143_14, o143_15, o143_16, o143_17, b143_1, ob143_1_1, ob143_1_2, ob143_1_3, ob143_1_4, ob143_1_5, iter, z0, z1, y1, y2, y3, x0, x1, x2, x3, u1, u2, v0, v1, v2, v3, v4, v5, v6, v7, v8, v9, d0, d1, d2, d2', d3, l1, kb1, kb2]
      by_cases kc1 : (c.toNat : Int) < 128
      · rw [let_none (by simp only [nats, List.map_cons, letter]; rw [if_neg c0, if_neg c1, if_neg c2, if_pos c3, if_neg (by simp only [Bool.and_eq_true, contB_iff]; omega)])]
        simp only [go_sem, Nat.reduceAdd, Nat.reduceMul, reduceIte, Nat.reduceLeDiff, Int.reduceLE, Int.reduceLT, Int.reduceToNat, mentL, ment, ment1, evGh, keepE, keepH, c143, o143_1, o143_2, o143_3, o143_4, o143_5, o143_6, o143_7, o143_8, o143_9, o143_10, o143_11, o143_12, o143_13, o143_14, o143_15, o143_16, o143_17, b143_1, ob143_1_1, ob143_1_2, ob143_1_3, ob143_1_4, ob143_1_5, iter, z0, z1, y1, y2, y3, x0, x1, x2, x3, u1, u2, v0, v1, v2, v3, v4, v5, v6, v7, v8, v9, d0, d1, d2, d2', d3, l1, kb1, kb2, kc1]
      by_cases kc2 : 191 < (c.toNat : Int)
      · rw [let_none (by simp only [nats, List.map_cons, letter]; rw [if_neg c0, if_neg c1, if_neg c2, if_pos c3, if_neg (by simp only [Bool.and_eq_true, contB_iff]; omega)])]
        simp only [go_sem, Nat.reduceAdd, Nat.reduceMul, reduceIte, Nat.reduceLeDiff, Int.reduceLE, Int.reduceLT, Int.reduceToNat, mentL, ment, ment1, evGh, keepE, keepH, c143, o143_1, o143_2, o143_3, o143_4, o143_5, o143_6, o143_7, o143_8, o143_9, o143_10, o143_11, o143_12, o143_13, o143_14, o143_15, o143_16, o143_17, b143_1, ob143_1_1, ob143_1_2, ob143_1_3, ob143_1_4, ob143_1_5, iter, z0, z1, y1, y2, y3, x0, x1, x2, x3, u1, u2, v0, v1, v2, v3, v4, v5, v6, v7, v8, v9, d0, d1, d2, d2', d3, l1, kb1, kb2, kc1, kc2]
      by_cases e1 : 64 * (64 * ((a.toNat : Int) - 224) + b.toNat - 128) + c.toNat - 128 < 2048
      · rw [let_none (by simp only [nats, List.map_cons, letter]; rw [if_neg c0, if_neg c1, if_neg c2, if_pos c3, if_pos (by simp only [Bool.and_eq_true, contB_iff]; omega), if_pos (by omega)])]
        simp only [go_sem, Nat.reduceAdd, Nat.reduceMul, reduceIte, Nat.reduceLeDiff, Int.reduceLE, Int.reduceLT, Int.reduceToNat, mentL, ment, ment1, evGh, keepE, keepH, c143, o143_1, o143_2, o143_3, o143_4, o143_5, o143_6, o143_7, o143_8, o143_9, o143_10, o143_11, o143_12, o143_13, o143_14, o143_15, o143_16, o143_17, b143_1, ob143_1_1, ob143_1_2, ob143_1_3, ob143_1_4, ob143_1_5, iter, z0, z1, y1, y2, y3, x0, x1, x2, x3, u1, u2, v0, v1, v2, v3, v4, v5, v6, v7, v8, v9, d0, d1, d2, d2', d3, l1, kb1, kb2, kc1, kc2, e1]
      have e2 : ¬ (1114111 < 64 * (64 * ((a.toNat : Int) - 224) + b.toNat - 128) + c.toNat - 128) := by omega
      by_cases e3 : 55296 ≤ 64 * (64 * ((a.toNat : Int) - 224) + b.toNat - 128) + c.toNat - 128
      · by_cases e4 : 64 * (64 * ((a.toNat : Int) - 224) + b.toNat - 128) + c.toNat - 128 < 57344
        · rw [let_none (by simp only [nats, List.map_cons, letter]; rw [if_neg c0, if_neg c1, if_neg c2, if_pos c3, if_pos (by simp only [Bool.and_eq_true, contB_iff]; omega), if_neg (by omega), if_pos (by omega)])]
          simp only [go_sem, Nat.reduceAdd, Nat.reduceMul, reduceIte, Nat.reduceLeDiff, Int.reduceLE, Int.reduceLT, Int.reduceToNat, mentL, ment, ment1, evGh, keepE, keepH, c143, o143_1, o143_2, o143_3, o143_4, o143_5, o143_6, o143_7, o143_8, o143_9, o143_10, o143_11, o143_12, o143_13, o143_14, o143_15, o143_16, o143_17, b143_1, ob143_1_1, ob143_1_2, ob143_1_3, ob143_1_4, ob143_1_5, iter, z0, z1, y1, y2, y3, x0, x1, x2, x3, u1, u2, v0, v1, v2, v3, v4, v5, v6, v7, v8, v9, d0, d1, d2, d2', d3, l1, kb1, kb2, kc1, kc2, e1, e2, e3, e4]
        · rw [let_some (c := ((a.toNat - 224) * 64 + (b.toNat - 128)) * 64 + (c.toNat - 128)) (k := 3) (by simp only [nats, List.map_cons, letter]; rw [if_neg c0, if_neg c1, if_neg c2, if_pos c3, if_pos (by simp only [Bool.and_eq_true, contB_iff]; omega), if_neg (by omega), if_neg (by omega)])]
          simp only [go_sem, Nat.reduceAdd, Nat.reduceMul, reduceIte, Nat.reduceLeDiff, Int.reduceLE, Int.reduceLT, Int.reduceToNat, mentL, ment, ment1, evGh, keepE, keepH, c143, o143_1, o143_2, o143_3, o143_4, o143_5, o143_6, o143_7, o143_8, o143_9, o143_10, o143_11, o143_12, o143_13, o143_14, o143_15, o143_16, o143_17, b143_1, ob143_1_1, ob143_1_2, ob143_1_3, ob143_1_4, ob143_1_5, iter, z0, z1, y1, y2, y3, x0, x1, x2, x3, u1, u2, v0, v1, v2, v3, v4, v5, v6, v7, v8, v9, d0, d1, d2, d2', d3, l1, kb1, kb2, kc1, kc2, e1, e2, e3, e4]
          rw [show 64 * (64 * ((a.toNat : Int) - 224) + b.toNat - 128) + c.toNat - 128 = ((((a.toNat - 224) * 64 + (b.toNat - 128)) * 64 + (c.toNat - 128) : Nat) : Int) by omega]
      · rw [let_some (c := ((a.toNat - 224) * 64 + (b.toNat - 128)) * 64 + (c.toNat - 128)) (k := 3) (by simp only [nats, List.map_cons, letter]; rw [if_neg c0, if_neg c1, if_neg c2, if_pos c3, if_pos (by simp only [Bool.and_eq_true, contB_iff]; omega), if_neg (by omega), if_neg (by omega)])]
        simp only [go_sem, Nat.reduceAdd, Nat.reduceMul, reduceIte, Nat.reduceLeDiff, Int.reduceLE, Int.reduceLT, Int.reduceToNat, mentL, ment, ment1, evGh, keepE, keepH, c143, o143_1, o143_2, o143_3, o143_4, o143_5, o143_6, o143_7, o143_8, o143_9, o143_10, o143_11, o143_12, o143_13, o143_14, o143_15, o143_16, o143_17, b143_1, ob143_1_1, ob143_1_2, ob143_1_3, ob143_1_4, ob143_1_5, iter, z0, z1, y1, y2, y3, x0, x1, x2, x3, u1, u2, v0, v1, v2, v3, v4, v5, v6, v7, v8, v9, d0, d1, d2, d2', d3, l1, kb1, kb2, kc1, kc2, e1, e2, e3]
        rw [show 64 * (64 * ((a.toNat : Int) - 224) + b.toNat - 128) + c.toNat - 128 = ((((a.toNat - 224) * 64 + (b.toNat - 128)) * 64 + (c.toNat - 128) : Nat) : Int) by omega]
  have d3 : ¬ (a.toNat : Int) < 240 := by omega
  have d3' : 240 ≤ (a.toNat : Int) := by omega
  by_cases c4 : a.toNat < 245
  · have d4 : (a.toNat : Int) < 245 := by omega
    have z1 : ((4 : Int) = 0) = False := by decide
    have y1 : (1 : Int) < 4 := by decide
    have y2 : (2 : Int) < 4 := by decide
    have y3 : (3 : Int) < 4 := by decide
    have y4 : ¬ (4 : Int) < 4 := by decide
    have x0 : (0 : Int) ≤ 0 := by decide
    have x1 : (0 : Int) ≤ 1 := by decide
    have x2 : (0 : Int) ≤ 2 := by decide
    have x3 : (0 : Int) ≤ 3 := by decide
    have x4 : (0 : Int) ≤ 4 := by decide
    have u1 : IntKind.i64.wrap (1 + 1) = 2 := by decide
    have u2 : IntKind.i64.wrap (2 + 1) = 3 := by decide
    have u3 : IntKind.i64.wrap (3 + 1) = 4 := by decide
    have v1 : IntKind.i64.wrap ((a.toNat : Int) - 240) = (a.toNat : Int) - 240 := w64 (by omega) (by omega)
    match r with
    | [] =>
      rw [let_none (by simp [nats, letter, c0, c1, c2, c3, c4])]
      simp only [go_sem, Nat.reduceAdd, Nat.reduceMul, reduceIte, Nat.reduceLeDiff, Int.reduceLE, Int.reduceLT, Int.reduceToNat, c143, o143_1, o143_2, o143_3, o143_4, o143_5, o143_6, o143_7, o143_8, o143_9, o143_10, o143_11, o143_12, o143_13, o143_14, o143_15, o143_16, o143_17, z0, z1, y1, v0, v1, d0, d1, d2, d2', d3, d3', d4]
    | [b] =>
      rw [let_none (by simp [nats, letter, c0, c1, c2, c3, c4])]
      simp only [go_sem, Nat.reduceAdd, Nat.reduceMul, reduceIte, Nat.reduceLeDiff, Int.reduceLE, Int.reduceLT, Int.reduceToNat, c143, o143_1, o143_2, o143_3, o143_4, o143_5, o143_6, o143_7, o143_8, o143_9, o143_10, o143_11, o143_12, o143_13, o143_14, o143_15, o143_16, o143_17, z0, z1, y2, v0, v1, d0, d1, d2, d2', d3, d3', d4]
    | [b, c] =>
      rw [let_none (by simp [nats, letter, c0, c1, c2, c3, c4])]
      simp only [go_sem, Nat.reduceAdd, Nat.reduceMul, reduceIte, Nat.reduceLeDiff, Int.reduceLE, Int.reduceLT, Int.reduceToNat, c143, o143_1, o143_2, o143_3, o143_4, o143_5, o143_6, o143_7, o143_8, o143_9, o143_10, o143_11, o143_12, o143_13, o143_14, o143_15, o143_16, o143_17, z0, z1, y3, v0, v1, d0, d1, d2, d2', d3, d3', d4]
    | b :: c :: d :: r =>
      have hb := b.toNat_lt
      have hc := c.toNat_lt
      have hd := d.toNat_lt
      have l1 : ¬ (((r.length + 1 + 1 + 1 + 1 : Nat) : Int) < 4) := by omega
      have v2 : IntKind.i64.wrap (64 * ((a.toNat : Int) - 240)) = 64 * ((a.toNat : Int) - 240) := w64 (by omega) (by omega)
      have v3 : IntKind.i64.wrap (b.toNat : Int) = b.toNat := w64 (by omega) (by omega)
      have v4 : IntKind.i64.wrap (64 * ((a.toNat : Int) - 240) + b.toNat) = 64 * ((a.toNat : Int) - 240) + b.toNat := w64 (by omega) (by omega)
      have v5 : IntKind.i64.wrap (64 * ((a.toNat : Int) - 240) + b.toNat - 128) = 64 * ((a.toNat : Int) - 240) + b.toNat - 128 := w64 (by omega) (by omega)
      have v6 : IntKind.i64.wrap (64 * (64 * ((a.toNat : Int) - 240) + b.toNat - 128)) = 64 * (64 * ((a.toNat : Int) - 240) + b.toNat - 128) := w64 (by omega) (by omega)
      have v7 : IntKind.i64.wrap (c.toNat : Int) = c.toNat := w64 (by omega) (by omega)
      have v8 : IntKind.i64.wrap (64 * (64 * ((a.toNat : Int) - 240) + b.toNat - 128) + c.toNat) = 64 * (64 * ((a.toNat : Int) - 240) + b.toNat - 128) + c.toNat := w64 (by omega) (by omega)
      have v9 : IntKind.i64.wrap (64 * (64 * ((a.toNat : Int) - 240) + b.toNat - 128) + c.toNat - 128) = 64 * (64 * ((a.toNat : Int) - 240) + b.toNat - 128) + c.toNat - 128 := w64 (by omega) (by omega)
      have v10 : IntKind.i64.wrap (64 * (64 * (64 * ((a.toNat : Int) - 240) + b.toNat - 128) + c.toNat - 128)) = 64 * (64 * (64 * ((a.toNat : Int) - 240) + b.toNat - 128) + c.toNat - 128) := w64 (by omega) (by omega)
      have v11 : IntKind.i64.wrap (d.toNat : Int) = d.toNat := w64 (by omega) (by omega)
      have v12 : IntKind.i64.wrap (64 * (64 * (64 * ((a.toNat : Int) - 240) + b.toNat - 128) + c.toNat - 128) + d.toNat) = 64 * (64 * (64 * ((a.toNat : Int) - 240) + b.toNat - 128) + c.toNat - 128) + d.toNat := w64 (by omega) (by omega)
      have v13 : IntKind.i64.wrap (64 * (64 * (64 * ((a.toNat : Int) - 240) + b.toNat - 128) + c.toNat - 128) + d.toNat - 128) = 64 * (64 * (64 * ((a.toNat : Int) - 240) + b.toNat - 128) + c.toNat - 128) + d.toNat - 128 := w64 (by omega) (by omega)
      by_cases kb1 : (b.toNat : Int) < 128
      · rw [let_none (by simp only [nats, List.map_cons, letter]; rw [if_neg c0, if_neg c1, if_neg c2, if_neg c3, if_pos c4, if_neg (by simp only [Bool.and_eq_true, contB_iff]; omega)])]
        simp only [go_sem, Nat.reduceAdd, Nat.reduceMul, reduceIte, Nat.reduceLeDiff, Int.reduceLE, Int.reduceLT, Int.reduceToNat, mentL, ment, ment1, evGh, keepE, keepH, c143, o143_1, o143_2, o143_3, o143_4, o143_5, o143_6, o143_7, o143_8, o143_9, o143_10, o143_11, o143_12, o143_13, o143_14, o143_15, o143_16, o143_17, b143_1, ob143_1_1, ob143_1_2, ob143_1_3, ob143_1_4, ob143_1_5, iter, z0, z1, y1, y2, y3, y4, x0, x1, x2, x3, x4, u1, u2, u3, v0, v1, v2, v3, v4, v5, v6, v7, v8, v9, v10, v11, v12, v13, d0, d1, d2, d2', d3, d3', d4, l1, kb1]
      by_cases kb2 : 191 < (b.toNat : Int)
      · rw [let_none (by simp only [nats, List.map_cons, letter]; rw [if_neg c0, if_neg c1, if_neg c2, if_neg c3, if_pos c4, if_neg (by simp only [Bool.and_eq_true, contB_iff]; omega)])]
        simp only [go_sem, Nat.reduceAdd, Nat.reduceMul, reduceIte, Nat.reduceLeDiff, Int.reduceLE, Int.reduceLT, Int.reduceToNat, mentL, ment, ment1, evGh, keepE, keepH, c143, o143_1, o143_2, o143_3, o143_4, o143_5, o143_6, o143_7, o143_8, o143_9, o143_10, o143_11, o143_12, o143_13, o143_14, o143_15, o143_16, o143_17, b143_1, ob143_1_1, ob143_1_2, ob143_1_3, ob143_1_4, ob143_1_5, iter, z0, z1, y1, y2, y3, y4, x0, x1, x2, x3, x4, u1, u2, u3, v0, v1, v2, v3, v4, v5, v6, v7, v8, v9, v10, v11, v12, v13, d0, d1, d2, d2', d3, d3', d4, l1, kb1, kb2]
      by_cases kc1 : (c.toNat : Int) < 128
      · rw [let_none (by simp only [nats, List.map_cons, letter]; rw [if_neg c0, if_neg c1, if_neg c2, if_neg c3, if_pos c4, if_neg (by simp only [Bool.and_eq_true, contB_iff]; omega)])]
        simp only [go_sem, Nat.reduceAdd, Nat.reduceMul, reduceIte, Nat.reduceLeDiff, Int.reduceLE, Int.reduceLT, Int.reduceToNat, mentL, ment, ment1, evGh, keepE, keepH, c143, o143_1, o143_2, o143_3, o143_4, o143_5, o143_6, o143_7, o143_8, o143_9, o143_10, o143_11, o143_12, o143_13, o143_14, o143_15, o143_16, o143_17, b143_1, ob143_1_1, ob143_1_2, ob143_1_3, ob143_1_4, ob143_1_5, iter, z0, z1, y1, y2, y3, y4, x0, x1, x2, x3, x4, u1, u2, u3, v0, v1, v2, v3, v4, v5, v6, v7, v8, v9, v10, v11, v12, v13, d0, d1, d2, d2', d3, d3', d4, l1, kb1, kb2, kc1]
      by_cases kc2 : 191 < (c.toNat : Int)
      · rw [let_none (by simp only [nats, List.map_cons, letter]; rw [if_neg c0, if_neg c1, if_neg c2, if_neg c3, if_pos c4, if_neg (by simp only [Bool.and_eq_true, contB_iff]; omega)])]
        simp only [go_sem, Nat.reduceAdd, Nat.reduceMul, reduceIte, Nat.reduceLeDiff, Int.reduceLE, Int.reduceLT, Int.reduceToNat, mentL, ment, ment1, evGh, keepE, keepH, c143, o143_1, o143_2, o143_3, o143_4, o143_5, o143_6, o143_7, o143_8, o143_9, o143_10, o143_11, o143_12, o143_13, o143_14, o143_15, o143_16, o143_17, b143_1, ob143_1_1, ob143_1_2, ob143_1_3, ob143_1_4, ob143_1_5, iter, z0, z1, y1, y2, y3, y4, x0, x1, x2, x3, x4, u1, u2, u3, v0, v1, v2, v3, v4, v5, v6, v7, v8, v9, v10, v11, v12, v13, d0, d1, d2, d2', d3, d3', d4, l1, kb1, kb2, kc1, kc2]
      by_cases kd1 : (d.toNat : Int) < 128
      · rw [let_none (by simp only [nats, List.map_cons, letter]; rw [if_neg c0, if_neg c1, if_neg c2, if_neg c3, if_pos c4, if_neg (by simp only [Bool.and_eq_true, contB_iff]; omega)])]
        simp only [go_sem, Nat.reduceAdd, Nat.reduceMul, reduceIte, Nat.reduceLeDiff, Int.reduceLE, Int.reduceLT, Int.reduceToNat, mentL, ment, ment1, evGh, keepE, keepH, c143, o143_1, o143_2, o143_3, o143_4, o143_5, o143_6, o143_7, o143_8, o143_9, o143_10, o143_11, o143_12, o143_13, o143_14, o143_15, o143_16, o143_17, b143_1, ob143_1_1, ob143_1_2, ob143_1_3, ob143_1_4, ob143_1_5, iter, z0, z1, y1, y2, y3, y4, x0, x1, x2, x3, x4, u1, u2, u3, v0, v1, v2, v3, v4, v5, v6, v7, v8, v9, v10, v11, v12, v13, d0, d1, d2, d2', d3, d3', d4, l1, kb1, kb2, kc1, kc2, kd1]
      by_cases kd2 : 191 < (d.toNat : Int)
      · rw [let_none (by simp only [nats, List.map_cons, letter]; rw [if_neg c0, if_neg c1, if_neg c2, if_neg c3, if_pos c4, if_neg (by simp only [Bool.and_eq_true, contB_iff]; omega)])]
        simp only [go_sem, Nat.reduceAdd, Nat.reduceMul, reduceIte, Nat.reduceLeDiff, Int.reduceLE, Int.reduceLT, Int.reduceToNat, mentL, ment, ment1, evGh, keepE, keepH, c143, o143_1, o143_2, o143_3, o143_4, o143_5, o143_6, o143_7, o143_8, o143_9, o143_10, o143_11, o143_12, o143_13, o143_14, o143_15, o143_16, o143_17, b143_1, ob143_1_1, ob143_1_2, ob143_1_3, ob143_1_4, ob143_1_5, iter, z0, z1, y1, y2, y3, y4, x0, x1, x2, x3, x4, u1, u2, u3, v0, v1, v2, v3, v4, v5, v6, v7, v8, v9, v10, v11, v12, v13, d0, d1, d2, d2', d3, d3', d4, l1, kb1, kb2, kc1, kc2, kd1, kd2]
      by_cases e1 : 64 * (64 * (64 * ((a.toNat : Int) - 240) + b.toNat - 128) + c.toNat - 128) + d.toNat - 128 < 65536
      · rw [let_none (by simp only [nats, List.map_cons, letter]; rw [if_neg c0, if_neg c1, if_neg c2, if_neg c3, if_pos c4, if_pos (by simp only [Bool.and_eq_true, contB_iff]; omega), if_pos (by omega)])]
        simp only [go_sem, Nat.reduceAdd, Nat.reduceMul, reduceIte, Nat.reduceLeDiff, Int.reduceLE, Int.reduceLT, Int.reduceToNat, mentL, ment, ment1, evGh, keepE, keepH, c143, o143_1, o143_2, o143_3, o143_4, o143_5, o143_6, o143_7, o143_8, o143_9, o143_10, o143_11, o143_12, o143_13, o143_14, o143_15, o143_16, o143_17, b143_1, ob143_1_1, ob143_1_2, ob143_1_3, ob143_1_4, ob143_1_5, iter, z0, z1, y1, y2, y3, y4, x0, x1, x2, x3, x4, u1, u2, u3, v0, v1, v2, v3, v4, v5, v6, v7, v8, v9, v10, v11, v12, v13, d0, d1, d2, d2', d3, d3', d4, l1, kb1, kb2, kc1, kc2, kd1, kd2, e1]
      by_cases e2 : 1114111 < 64 * (64 * (64 * ((a.toNat : Int) - 240) + b.toNat - 128) + c.toNat - 128) + d.toNat - 128
      · rw [let_none (by simp only [nats, List.map_cons, letter]; rw [if_neg c0, if_neg c1, if_neg c2, if_neg c3, if_pos c4, if_pos (by simp only [Bool.and_eq_true, contB_iff]; omega), if_neg (by omega), if_pos (by omega)])]
        simp only [go_sem, Nat.reduceAdd, Nat.reduceMul, reduceIte, Nat.reduceLeDiff, Int.reduceLE, Int.reduceLT, Int.reduceToNat, mentL, ment, ment1, evGh, keepE, keepH, c143, o143_1, o143_2, o143_3, o143_4, o143_5, o143_6, o143_7, o143_8, o143_9, o143_10, o143_11, o143_12, o143_13, o143_14, o143_15, o143_16, o143_17, b143_1, ob143_1_1, ob143_1_2, ob143_1_3, ob143_1_4, ob143_1_5, iter, z0, z1, y1, y2, y3, y4, x0, x1, x2, x3, x4, u1, u2, u3, v0, v1, v2, v3, v4, v5, v6, v7, v8, v9, v10, v11, v12, v13, d0, d1, d2, d2', d3, d3', d4, l1, kb1, kb2, kc1, kc2, kd1, kd2, e1, e2]
      have e3 : 55296 ≤ 64 * (64 * (64 * ((a.toNat : Int) - 240) + b.toNat - 128) + c.toNat - 128) + d.toNat - 128 := by omega
      have e4 : ¬ (64 * (64 * (64 * ((a.toNat : Int) - 240) + b.toNat - 128) + c.toNat - 128) + d.toNat - 128 < 57344) := by omega
      rw [let_some (c := (((a.toNat - 240) * 64 + (b.toNat - 128)) * 64 + (c.toNat - 128)) * 64 + (d.toNat - 128)) (k := 4) (by simp only [nats, List.map_cons, letter]; rw [if_neg c0, if_neg c1, if_neg c2, if_neg c3, if_pos c4, if_pos (by simp only [Bool.and_eq_true, contB_iff]; omega), if_neg (by omega), if_neg (by omega)])]
      simp only [go_sem, Nat.reduceAdd, Nat.reduceMul, reduceIte, Nat.reduceLeDiff, Int.reduceLE, Int.reduceLT, Int.reduceToNat, mentL, ment, ment1, evGh, keepE, keepH, c143, o143_1, o143_2, o143_3, o143_4, o143_5, o143_6, o143_7, o143_8, o143_9, o143_10, o143_11, o143_12, o143_13, o143_14, o143_15, o143_16, o143_17, b143_1, ob143_1_1, ob143_1_2, ob143_1_3, ob143_1_4, ob143_1_5, iter, z0, z1, y1, y2, y3, y4, x0, x1, x2, x3, x4, u1, u2, u3, v0, v1, v2, v3, v4, v5, v6, v7, v8, v9, v10, v11, v12, v13, d0, d1, d2, d2', d3, d3', d4, l1, kb1, kb2, kc1, kc2, kd1, kd2, e1, e2, e3, e4]
      rw [show 64 * (64 * (64 * ((a.toNat : Int) - 240) + b.toNat - 128) + c.toNat - 128) + d.toNat - 128 = (((((a.toNat - 240) * 64 + (b.toNat - 128)) * 64 + (c.toNat - 128)) * 64 + (d.toNat - 128) : Nat) : Int) by omega]
  have d4 : ¬ (a.toNat : Int) < 245 := by omega
  rw [let_none (by simp [nats, letter, c0, c1, c2, c3, c4])]
  simp only [go_sem, Nat.reduceAdd, Nat.reduceMul, reduceIte, Nat.reduceLeDiff, Int.reduceLE, Int.reduceLT, Int.reduceToNat, c143, o143_1, o143_2, o143_3, o143_4, o143_5, o143_6, o143_7, o143_8, o143_9, o143_10, o143_11, o143_12, o143_13, o143_14, o143_15, o143_16, o143_17, z0, v0, d0, d1, d2, d2', d3, d3', d4]
end Go.Proofs.YtefoleocbhkobaaGreatDoor
namespace Go.Proofs.YtefoleocbhkobaaGreatDoor
open Go Go.Ev
set_option linter.unusedSectionVars false
set_option linter.unusedSimpArgs false
set_option linter.unusedVariables false
theorem letter_size : ∀ {l : List Nat} {c k : Nat}, letter l = some (c, k) → 1 ≤ k ∧ k ≤ l.length ∧ (c = 65533 → k = 3)
  | [], c, k, h => by cases h
  | a :: r, c, k, h => by
    simp only [letter] at h
    by_cases c0 : a < 128
    · rw [if_pos c0] at h; cases h
      exact ⟨by omega, by simp, fun h => by omega⟩
    rw [if_neg c0] at h
    by_cases c1 : a < 194
    · rw [if_pos c1] at h; cases h
    rw [if_neg c1] at h
    by_cases c2 : a < 224
    · rw [if_pos c2] at h
      match r, h with
      | b :: t, h =>
        by_cases hb : contB b = true
        · simp only [hb, if_true] at h
          obtain ⟨hc, hk⟩ := Prod.mk.inj (Option.some.inj h)
          subst hk
          have := contB_iff.1 hb
          exact ⟨by omega, by simp, fun h => by omega⟩
        · simp only [hb] at h; cases h
    rw [if_neg c2] at h
    by_cases c3 : a < 240
    · rw [if_pos c3] at h
      match r, h with
      | b :: d :: t, h =>
        by_cases hb : (contB b && contB d) = true
        · simp only [hb, if_true] at h
          split at h
          · cases h
          split at h
          · cases h
          obtain ⟨hc, hk⟩ := Prod.mk.inj (Option.some.inj h)
          subst hk
          exact ⟨by omega, by simp, fun _ => rfl⟩
        · simp only [hb] at h; cases h
    rw [if_neg c3] at h
    by_cases c4 : a < 245
    · rw [if_pos c4] at h
      match r, h with
      | b :: d :: e :: t, h =>
        by_cases hb : (contB b && contB d && contB e) = true
        · simp only [hb, if_true] at h
          split at h
          · cases h
          rename_i h1
          split at h
          · cases h
          obtain ⟨hc, hk⟩ := Prod.mk.inj (Option.some.inj h)
          subst hk
          exact ⟨by omega, by simp, fun h => by omega⟩
        · simp only [hb] at h; cases h
    · rw [if_neg c4] at h; cases h
theorem rune_size (a : UInt8) (r : List UInt8) : 1 ≤ (rune (a :: r)).2 ∧ (rune (a :: r)).2 ≤ (a :: r).length := by
  unfold rune
  cases h : letter (nats (a :: r)) with
  | none => simp
  | some p =>
    obtain ⟨c, k⟩ := p
    have := letter_size h
    simp [nats] at this ⊢
    omega
def plainAll : Nat → List UInt8 → Bool
  | 0, _ => true
  | _ + 1, [] => true
  | f + 1, a :: r => plainL (letter (nats (a :: r))) && plainAll f ((a :: r).drop (rune (a :: r)).2)
theorem plainAll_same : ∀ (f g : Nat) (s : List UInt8), s.length < f → s.length < g → plainAll f s = plainAll g s
  | 0, _, s, h, _ => by omega
  | _, 0, s, _, h => by omega
  | f + 1, g + 1, [], _, _ => rfl
  | f + 1, g + 1, a :: r, h1, h2 => by
    have := rune_size a r
    simp only [plainAll]
    rw [plainAll_same f g]
    · simp at h1 ⊢; omega
    · simp at h2 ⊢; omega
def keyRight (s : List UInt8) : Bool := plainAll (s.length + 1) s && decide (1 ≤ (s.length : Int)) && decide ((s.length : Int) ≤ 16)
theorem plain_rune (a : UInt8) (r : List UInt8) :
    (decide ((33 : Int) ≤ ((rune (a :: r)).1 : Int)) && (decide (((rune (a :: r)).1 : Int) < 127) || decide ((159 : Int) < ((rune (a :: r)).1 : Int))) && (!decide (((rune (a :: r)).1 : Int) = 65533) || decide (((rune (a :: r)).2 : Int) = 3))) = plainL (letter (nats (a :: r))) := by
  unfold rune
  cases h : letter (nats (a :: r)) with
  | none => simp [plainL]
  | some p =>
    obtain ⟨c, k⟩ := p
    have := letter_size h
    simp only [plainL, plainN]
    by_cases hc : (c : Int) = 65533
    · have hk : (k : Int) = 3 := by have := this.2.2 (by omega); omega
      simp [hc, hk]
    · simp [hc]
theorem loop120 {n : Nat} (s : List UInt8) (hs : s.length ≤ 1000000000) : ∀ (m pos : Nat) (rest : List UInt8) (env : Env) (H : Heap), s.drop pos = rest → pos ≤ s.length → rest.length + 1 ≤ m →
    evGh (.keep [0, 8] [100008]) env H = some ([(0, .str s), (8, .ptr 100008 0)], [(100008, .iter s pos)]) →
    Ends (iter m (evCode ⟨run tab prim glob (n + 3), glob⟩ (iter (n + 3)) b120_1) env H) (Tells (plainAll m rest) 0 (.str s) 2 (.bool false))
  | m + 1, pos, [], env, H, hd, hp, hm, hk => by
    have e1 : ¬ pos < s.length := by
      have : (s.drop pos).length = 0 := by rw [hd]; rfl
      simp at this; omega
    rw [iter_step]
    generalize iter m (evCode ⟨run tab prim glob (n + 3), glob⟩ (iter (n + 3)) b120_1) = g
    simp only [b120_1, ob120_1_1, ob120_1_2, ob120_1_3, ob120_1_4, ob120_1_5, hk, go_sem, Nat.reduceAdd, Nat.reduceMul, reduceIte, Nat.reduceLeDiff, Int.reduceLE, Int.reduceLT, Int.reduceToNat, e1, afterIt]
    exact Ends.of ⟨rfl, rfl⟩
  | m + 1, pos, a :: r, env, H, hd, hp, hm, hk => by
    have e1 : pos < s.length := by
      have : (s.drop pos).length = (a :: r).length := by rw [hd]
      simp at this; omega
    have e2 : (0 : Int) ≤ (pos : Int) := by omega
    have e3 : (pos : Int) ≤ (s.length : Int) := by omega
    have e4 : (s.take s.length).drop pos = a :: r := by rw [List.take_length]; exact hd
    have hdec := decode_model hd
    have hrun := decode_ok (N := n + 3) (by omega) a r
    have hpl := plain_ok (N := n + 3) (by omega) ((rune (a :: r)).1 : Int) ((rune (a :: r)).2 : Int)
    rw [plain_rune] at hpl
    have hsz := rune_size a r
    have hr : s.drop (pos + (rune (a :: r)).2) = (a :: r).drop (rune (a :: r)).2 := by rw [← hd, List.drop_drop]
    have hlen : (s.drop pos).length = (a :: r).length := by rw [hd]
    have ih := loop120 (n := n) s hs m (pos + (rune (a :: r)).2) ((a :: r).drop (rune (a :: r)).2)
    rw [iter_step]
    generalize iter m (evCode ⟨run tab prim glob (n + 3), glob⟩ (iter (n + 3)) b120_1) = g at ih ⊢
    simp only [runePV] at hrun
    cases hb : plainL (letter (nats (a :: r)))
    · rw [hb] at hpl
      simp only [b120_1, ob120_1_1, ob120_1_2, ob120_1_3, ob120_1_4, ob120_1_5, hk, go_sem, Nat.reduceAdd, Nat.reduceMul, reduceIte, Nat.reduceLeDiff, Int.reduceLE, Int.reduceLT, Int.reduceToNat, e1, e2, e3, e4, hdec, hrun, hpl, afterIt, plainAll, hb]
      exact Ends.of ⟨rfl, rfl⟩
    · rw [hb] at hpl
      simp only [b120_1, ob120_1_1, ob120_1_2, ob120_1_3, ob120_1_4, ob120_1_5, hk, go_sem, Nat.reduceAdd, Nat.reduceMul, reduceIte, Nat.reduceLeDiff, Int.reduceLE, Int.reduceLT, Int.reduceToNat, e1, e2, e3, e4, hdec, hrun, hpl, afterIt, plainAll, hb]
      refine ih _ _ hr (by simp only [List.length_drop, List.length_cons] at hlen hsz; omega) (by simp at hm ⊢; omega) ?_
      rfl
theorem keyRight_ok {N : Nat} (s : List UInt8) (hs : s.length ≤ 1000000000) (hN : s.length + 8 ≤ N) : run tab prim glob N 120 [.str s] = some (.bool (keyRight s), []) := by
  obtain ⟨n, rfl⟩ : ∃ n, N = n + 4 := ⟨N - 4, by omega⟩
  rw [enters (n := n + 3) (fn := c120) rfl]
  have hL := fun env H h => loop120 (n := n) s hs (n + 3) 0 s env H rfl (by omega) (by omega) h
  simp only [c120, o120_1, o120_2, o120_3, go_sem, Nat.reduceAdd, Nat.reduceMul, reduceIte, Nat.reduceLeDiff, Int.reduceLE, Int.reduceLT, Int.reduceToNat]
  generalize iter (n + 3) (evCode ⟨run tab prim glob (n + 3), glob⟩ (iter (n + 3)) b120_1) = g at hL ⊢
  generalize hE : g _ _ = o
  obtain ⟨ex, env', H', rfl, h2⟩ := Ends.at hL hE rfl
  unfold Tells at h2
  rw [plainAll_same (n + 3) (s.length + 1) s (by omega) (by omega)] at h2
  cases hb : plainAll (s.length + 1) s
  · rw [hb] at h2
    obtain ⟨rfl, h3⟩ := h2
    simp only [go_sem, Nat.reduceAdd, Nat.reduceMul, reduceIte, Nat.reduceLeDiff, Int.reduceLE, Int.reduceLT, Int.reduceToNat, h3, keyRight, hb]
  · rw [hb] at h2
    obtain ⟨rfl, h3⟩ := h2
    by_cases h1_ : 1 ≤ (s.length : Int)
    · by_cases h2_ : (s.length : Int) ≤ 16
      · simp only [go_sem, Nat.reduceAdd, Nat.reduceMul, reduceIte, Nat.reduceLeDiff, Int.reduceLE, Int.reduceLT, Int.reduceToNat, h3, keyRight, hb, h1_, Int.not_lt.2 h1_, h2_, Int.not_lt.2 h2_]
      · simp only [go_sem, Nat.reduceAdd, Nat.reduceMul, reduceIte, Nat.reduceLeDiff, Int.reduceLE, Int.reduceLT, Int.reduceToNat, h3, keyRight, hb, h1_, Int.not_lt.2 h1_, h2_, Int.not_le.1 h2_]
    · simp only [go_sem, Nat.reduceAdd, Nat.reduceMul, reduceIte, Nat.reduceLeDiff, Int.reduceLE, Int.reduceLT, Int.reduceToNat, h3, keyRight, hb, h1_, Int.not_le.1 h1_]
end Go.Proofs.YtefoleocbhkobaaGreatDoor
namespace Go.Proofs.YtefoleocbhkobaaGreatDoor
open Go Go.Ev
set_option linter.unusedSectionVars false
set_option linter.unusedSimpArgs false
set_option linter.unusedVariables false
theorem plain04 (a : UInt8) (r : List UInt8) : ∃ c k : Int, letPV (a :: r) = .tuple [.int .i64 c, .int .i64 k] ∧ (decide (32 < c) && !decide (c = 127) && (decide (c < 128) || decide (159 < c))) = plainL (letter (nats (a :: r))) ∧
    (plainL (letter (nats (a :: r))) = true → k = ((rune (a :: r)).2 : Int)) := by
  cases h : letter (nats (a :: r)) with
  | none => exact ⟨-1, 1, let_none h, by simp [plainL], fun h => by cases h⟩
  | some p =>
    obtain ⟨c, k⟩ := p
    refine ⟨c, k, let_some h, ?_, fun _ => by unfold rune; rw [h]⟩
    simp only [plainL, plainN]
    rw [Bool.eq_iff_iff]
    simp only [Bool.and_eq_true, Bool.or_eq_true, decide_eq_true_eq, Bool.not_eq_true', decide_eq_false_iff_not]
    omega
theorem loop124 {n : Nat} : ∀ (m : Nat) (s : List UInt8) (env : Env) (H : Heap), s.length + 1 ≤ m →
    evGh (.keep [0] []) env H = some ([(0, .str s)], []) →
    Ends (iter m (evCode ⟨run tab prim glob (n + 8), glob⟩ (iter (n + 8)) b124_1) env H) (fun ex e _ => if plainAll m s then ex = .exit 0 else ex = .ret ∧ getT e 2 = .bool false)
  | m + 1, [], env, H, hm, hk => by
    rw [iter_step]
    generalize iter m (evCode ⟨run tab prim glob (n + 8), glob⟩ (iter (n + 8)) b124_1) = g
    have e1 : ¬ (0 : Int) < 0 := by decide
    simp only [b124_1, ob124_1_1, ob124_1_2, ob124_1_3, ob124_1_4, ob124_1_5, hk, go_sem, Nat.reduceAdd, Nat.reduceMul, reduceIte, Nat.reduceLeDiff, Int.reduceLE, Int.reduceLT, Int.reduceToNat, e1, afterIt]
    exact Ends.of rfl
  | m + 1, a :: r, env, H, hm, hk => by
    have e1 : (0 : Int) < ((r.length + 1 : Nat) : Int) := by omega
    obtain ⟨c, k, hlet, hpl, hk2⟩ := plain04 a r
    have hrun := letter_ok (N := n + 8) (by omega) a r
    rw [hlet] at hrun
    have hp := plain04_ok (N := n + 8) (by omega) c
    rw [hpl] at hp
    have hsz := rune_size a r
    have ih := loop124 (n := n) m ((a :: r).drop (rune (a :: r)).2)
    rw [iter_step]
    generalize iter m (evCode ⟨run tab prim glob (n + 8), glob⟩ (iter (n + 8)) b124_1) = g at ih ⊢
    cases hb : plainL (letter (nats (a :: r)))
    · rw [hb] at hp
      simp only [b124_1, ob124_1_1, ob124_1_2, ob124_1_3, ob124_1_4, ob124_1_5, hk, go_sem, Nat.reduceAdd, Nat.reduceMul, reduceIte, Nat.reduceLeDiff, Int.reduceLE, Int.reduceLT, Int.reduceToNat, e1, hrun, hp, afterIt, plainAll, hb]
      exact Ends.of ⟨rfl, rfl⟩
    · rw [hb] at hp
      have hk3 := hk2 hb
      subst hk3
      have e2 : (0 : Int) ≤ ((rune (a :: r)).2 : Int) := by omega
      have e3 : ((rune (a :: r)).2 : Int) ≤ ((r.length + 1 : Nat) : Int) := by simp at hsz; omega
      have e4 : List.drop (rune (a :: r)).2 (List.take (r.length + 1) (a :: r)) = (a :: r).drop (rune (a :: r)).2 := by
        rw [show r.length + 1 = (a :: r).length from rfl, List.take_length]
      simp only [b124_1, ob124_1_1, ob124_1_2, ob124_1_3, ob124_1_4, ob124_1_5, hk, go_sem, Nat.reduceAdd, Nat.reduceMul, reduceIte, Nat.reduceLeDiff, Int.reduceLE, Int.reduceLT, Int.reduceToNat, e1, e2, e3, hrun, hp, afterIt, plainAll, hb]
      refine ih _ _ (by simp at hm hsz ⊢; omega) ?_
      simp only [go_sem, Nat.reduceAdd, Nat.reduceMul, reduceIte, Nat.reduceLeDiff, Int.reduceLE, Int.reduceLT, Int.reduceToNat, mentL, ment, ment1, evGh, keepE, keepH]
      rw [List.take_length]
theorem keyRight04_ok {N : Nat} (s : List UInt8) (hs : s.length ≤ 1000000000) (hN : s.length + 12 ≤ N) : run tab prim glob N 124 [.str s] = some (.bool (keyRight s), []) := by
  obtain ⟨n, rfl⟩ : ∃ n, N = n + 9 := ⟨N - 9, by omega⟩
  rw [enters (n := n + 8) (fn := c124) rfl]
  by_cases h0 : s = []
  · subst h0
    simp only [c124, o124_1, o124_2, o124_3, o124_4, go_sem, Nat.reduceAdd, Nat.reduceMul, reduceIte, Nat.reduceLeDiff, Int.reduceLE, Int.reduceLT, Int.reduceToNat]
    rfl
  have h1 : ¬ ((s.length : Int) = 0) := by
    have := List.length_pos_iff.2 h0
    omega
  have h3 : (1 : Int) ≤ (s.length : Int) := by omega
  by_cases h2 : 16 < (s.length : Int)
  · have h4 : ¬ ((s.length : Int) ≤ 16) := by omega
    simp only [c124, o124_1, o124_2, o124_3, o124_4, go_sem, Nat.reduceAdd, Nat.reduceMul, reduceIte, Nat.reduceLeDiff, Int.reduceLE, Int.reduceLT, Int.reduceToNat, h1, h2, keyRight, h3, h4]
  have h4 : (s.length : Int) ≤ 16 := by omega
  have hL := fun env H h => loop124 (n := n) (n + 8) s env H (by omega) h
  simp only [c124, o124_1, o124_2, o124_3, o124_4, go_sem, Nat.reduceAdd, Nat.reduceMul, reduceIte, Nat.reduceLeDiff, Int.reduceLE, Int.reduceLT, Int.reduceToNat, h1, h2]
  generalize iter (n + 8) (evCode ⟨run tab prim glob (n + 8), glob⟩ (iter (n + 8)) b124_1) = g at hL ⊢
  generalize hE : g _ _ = o
  obtain ⟨ex, env', H', rfl, h5⟩ := Ends.at hL hE rfl
  rw [plainAll_same (n + 8) (s.length + 1) s (by omega) (by omega)] at h5
  cases hb : plainAll (s.length + 1) s
  · rw [hb] at h5
    obtain ⟨rfl, h6⟩ := h5
    simp only [go_sem, Nat.reduceAdd, Nat.reduceMul, reduceIte, Nat.reduceLeDiff, Int.reduceLE, Int.reduceLT, Int.reduceToNat, h6, keyRight, hb]
  · rw [hb] at h5
    simp only [if_true] at h5
    subst h5
    simp only [go_sem, Nat.reduceAdd, Nat.reduceMul, reduceIte, Nat.reduceLeDiff, Int.reduceLE, Int.reduceLT, Int.reduceToNat, keyRight, hb, h3, h4]
def lets : Nat → List UInt8 → List Nat
  | 0, _ => []
  | _ + 1, [] => []
  | f + 1, a :: r => (rune (a :: r)).1 :: lets f ((a :: r).drop (rune (a :: r)).2)
theorem lets_same : ∀ (f g : Nat) (s : List UInt8), s.length < f → s.length < g → lets f s = lets g s
  | 0, _, s, h, _ => by omega
  | _, 0, s, _, h => by omega
  | f + 1, g + 1, [], _, _ => rfl
  | f + 1, g + 1, a :: r, h1, h2 => by
    have := rune_size a r
    simp only [lets]
    rw [lets_same f g]
    · simp at h1 ⊢; omega
    · simp at h2 ⊢; omega
def cmpL : List Nat → List Nat → Int
  | [], [] => 0
  | [], _ :: _ => -1
  | _ :: _, [] => 1
  | x :: xs, y :: ys => if (x : Int) < y then -1 else if (y : Int) < x then 1 else cmpL xs ys
def keyCmp (a b : List UInt8) : Int := cmpL (lets (a.length + 1) a) (lets (b.length + 1) b)
theorem loop132 {n : Nat} : ∀ (m : Nat) (a b : List UInt8) (env : Env) (H : Heap), a.length + 1 ≤ m → b.length + 1 ≤ m →
    evGh (.keep [0, 1] []) env H = some ([(0, .str a), (1, .str b)], []) →
    Ends (iter m (evCode ⟨run tab prim glob (n + 3), glob⟩ (iter (n + 3)) b132_1) env H)
      (fun ex e _ => (ex = .ret ∧ getT e 4 = .int .i64 (cmpL (lets m a) (lets m b))) ∨
        (ex = .exit 0 ∧ ∃ a' b' : List UInt8, getT e 0 = .str a' ∧ getT e 1 = .str b' ∧ cmpL (lets m a) (lets m b) = if a' = [] then (if b' = [] then 0 else -1) else 1))
  | m + 1, [], b, env, H, hm, hm2, hk => by
    rw [iter_step]
    generalize iter m (evCode ⟨run tab prim glob (n + 3), glob⟩ (iter (n + 3)) b132_1) = g
    simp only [b132_1, ob132_1_1, ob132_1_2, ob132_1_3, ob132_1_4, ob132_1_5, ob132_1_6, ob132_1_7, ob132_1_8, hk, go_sem, Nat.reduceAdd, Nat.reduceMul, reduceIte, Nat.reduceLeDiff, Int.reduceLE, Int.reduceLT, Int.reduceToNat, afterIt]
    refine Ends.of (.inr ⟨rfl, [], b, rfl, rfl, ?_⟩)
    cases b <;> simp [lets, cmpL]
  | m + 1, x :: a, [], env, H, hm, hm2, hk => by
    rw [iter_step]
    generalize iter m (evCode ⟨run tab prim glob (n + 3), glob⟩ (iter (n + 3)) b132_1) = g
    have e1 : (x :: a = []) = False := by simp
    simp only [b132_1, ob132_1_1, ob132_1_2, ob132_1_3, ob132_1_4, ob132_1_5, ob132_1_6, ob132_1_7, ob132_1_8, hk, go_sem, Nat.reduceAdd, Nat.reduceMul, reduceIte, Nat.reduceLeDiff, Int.reduceLE, Int.reduceLT, Int.reduceToNat, afterIt, e1]
    refine Ends.of (.inr ⟨rfl, x :: a, [], rfl, rfl, ?_⟩)
    simp [lets, cmpL]
  | m + 1, x :: a, y :: b, env, H, hm, hm2, hk => by
    have ex : (x :: a = []) = False := by simp
    have ey : (y :: b = []) = False := by simp
    have hx := decode_ok (N := n + 3) (by omega) x a
    have hy := decode_ok (N := n + 3) (by omega) y b
    have sx := rune_size x a
    have sy := rune_size y b
    have ih := loop132 (n := n) m ((x :: a).drop (rune (x :: a)).2) ((y :: b).drop (rune (y :: b)).2)
    rw [iter_step]
    generalize iter m (evCode ⟨run tab prim glob (n + 3), glob⟩ (iter (n + 3)) b132_1) = g at ih ⊢
    simp only [runePV] at hx hy
    by_cases h1 : ((rune (x :: a)).1 : Int) < ((rune (y :: b)).1 : Int)
    · simp only [b132_1, ob132_1_1, ob132_1_2, ob132_1_3, ob132_1_4, ob132_1_5, ob132_1_6, ob132_1_7, ob132_1_8, hk, go_sem, Nat.reduceAdd, Nat.reduceMul, reduceIte, Nat.reduceLeDiff, Int.reduceLE, Int.reduceLT, Int.reduceToNat, afterIt, ex, ey, hx, hy, h1]
      exact Ends.of (.inl ⟨rfl, by simp only [lets, cmpL, if_pos h1]; rfl⟩)
    · by_cases h2 : ((rune (y :: b)).1 : Int) < ((rune (x :: a)).1 : Int)
      · simp only [b132_1, ob132_1_1, ob132_1_2, ob132_1_3, ob132_1_4, ob132_1_5, ob132_1_6, ob132_1_7, ob132_1_8, hk, go_sem, Nat.reduceAdd, Nat.reduceMul, reduceIte, Nat.reduceLeDiff, Int.reduceLE, Int.reduceLT, Int.reduceToNat, afterIt, ex, ey, hx, hy, h1, h2]
        exact Ends.of (.inl ⟨rfl, by simp only [lets, cmpL, if_neg h1, if_pos h2]; rfl⟩)
      · have e1 : (0 : Int) ≤ ((rune (x :: a)).2 : Int) := by omega
        have e2 : (0 : Int) ≤ ((rune (y :: b)).2 : Int) := by omega
        have e3 : ((rune (x :: a)).2 : Int) ≤ ((a.length + 1 : Nat) : Int) := by simp at sx; omega
        have e4 : ((rune (y :: b)).2 : Int) ≤ ((b.length + 1 : Nat) : Int) := by simp at sy; omega
        simp only [b132_1, ob132_1_1, ob132_1_2, ob132_1_3, ob132_1_4, ob132_1_5, ob132_1_6, ob132_1_7, ob132_1_8, hk, go_sem, Nat.reduceAdd, Nat.reduceMul, reduceIte, Nat.reduceLeDiff, Int.reduceLE, Int.reduceLT, Int.reduceToNat, afterIt, ex, ey, hx, hy, h1, h2, e1, e2, e3, e4, lets, cmpL]
        refine ih _ _ (by simp at hm sx ⊢; omega) (by simp at hm2 sy ⊢; omega) ?_
        simp only [go_sem, Nat.reduceAdd, Nat.reduceMul, reduceIte, Nat.reduceLeDiff, Int.reduceLE, Int.reduceLT, Int.reduceToNat, mentL, ment, ment1, evGh, keepE, keepH]
        rw [List.take_length, List.take_length]
theorem cmp_ok {N : Nat} (a b : List UInt8) (hN : a.length + b.length + 8 ≤ N) : run tab prim glob N 132 [.str a, .str b] = some (.int .i64 (keyCmp a b), []) := by
  obtain ⟨n, rfl⟩ : ∃ n, N = n + 4 := ⟨N - 4, by omega⟩
  rw [enters (n := n + 3) (fn := c132) rfl]
  have hL := fun env H h => loop132 (n := n) (n + 3) a b env H (by omega) (by omega) h
  simp only [c132, o132_1, o132_2, o132_3, o132_4, o132_5, o132_6, go_sem, Nat.reduceAdd, Nat.reduceMul, reduceIte, Nat.reduceLeDiff, Int.reduceLE, Int.reduceLT, Int.reduceToNat]
  generalize iter (n + 3) (evCode ⟨run tab prim glob (n + 3), glob⟩ (iter (n + 3)) b132_1) = g at hL ⊢
  generalize hE : g _ _ = o
  obtain ⟨ex, env', H', rfl, h5⟩ := Ends.at hL hE rfl
  rw [lets_same (n + 3) (a.length + 1) a (by omega) (by omega), lets_same (n + 3) (b.length + 1) b (by omega) (by omega)] at h5
  rcases h5 with ⟨rfl, h6⟩ | ⟨rfl, a', b', h6, h7, h8⟩
  · simp only [go_sem, Nat.reduceAdd, Nat.reduceMul, reduceIte, Nat.reduceLeDiff, Int.reduceLE, Int.reduceLT, Int.reduceToNat, h6, keyCmp]
  · unfold keyCmp
    rw [h8]
    by_cases ha : a' = []
    · subst ha
      by_cases hb : b' = []
      · subst hb
        simp only [go_sem, Nat.reduceAdd, Nat.reduceMul, reduceIte, Nat.reduceLeDiff, Int.reduceLE, Int.reduceLT, Int.reduceToNat, h6, h7]
      · simp only [go_sem, Nat.reduceAdd, Nat.reduceMul, reduceIte, Nat.reduceLeDiff, Int.reduceLE, Int.reduceLT, Int.reduceToNat, h6, h7, hb]
    · simp only [go_sem, Nat.reduceAdd, Nat.reduceMul, reduceIte, Nat.reduceLeDiff, Int.reduceLE, Int.reduceLT, Int.reduceToNat, h6, h7, ha]
end Go.Proofs.YtefoleocbhkobaaGreatDoor
namespace Go.Proofs.YtefoleocbhkobaaGreatDoor
open Go Go.Ev
set_option linter.unusedSectionVars false
set_option linter.unusedSimpArgs false
set_option linter.unusedVariables false
def row1 (c : Nat) : List PV := [.int .i64 (c : Int)]
theorem let_rune (a : UInt8) (r : List UInt8) : ∃ c : Int, letPV (a :: r) = .tuple [.int .i64 c, .int .i64 ((rune (a :: r)).2 : Int)] ∧ ((c < 0 ∧ (rune (a :: r)).1 = 65533) ∨ (¬ c < 0 ∧ c = ((rune (a :: r)).1 : Int))) := by
  cases h : letter (nats (a :: r)) with
  | none => exact ⟨-1, by rw [let_none h]; unfold rune; rw [h]; rfl, .inl ⟨by decide, by unfold rune; rw [h]⟩⟩
  | some p =>
    obtain ⟨c, k⟩ := p
    exact ⟨c, by rw [let_some h]; unfold rune; rw [h], .inr ⟨by omega, by unfold rune; rw [h]⟩⟩
theorem loop153 {n : Nat} : ∀ (m : Nat) (s : List UInt8) (done : List Nat) (env : Env) (H : Heap), s.length + 1 ≤ m → done.length + s.length ≤ 1000000000 →
    evGh (.keep [0, 3] [300003]) env H = some ([(0, .str s), (3, .own 300003 0 done.length done.length)], [(300003, .arr 1 (done.map row1))]) →
    Ends (iter m (evCode ⟨run tab prim glob (n + 8), glob⟩ (iter (n + 8)) b153_1) env H)
      (fun ex e h => ex = .exit 0 ∧ getT e 3 = .own 300003 0 (done ++ lets m s).length (done ++ lets m s).length ∧ hget h 300003 = some (.arr 1 ((done ++ lets m s).map row1)))
  | m + 1, [], done, env, H, hm, hb, hk => by
    rw [iter_step]
    generalize iter m (evCode ⟨run tab prim glob (n + 8), glob⟩ (iter (n + 8)) b153_1) = g
    have e1 : ¬ (0 : Int) < 0 := by decide
    simp only [b153_1, ob153_1_1, ob153_1_2, ob153_1_3, ob153_1_4, ob153_1_5, ob153_1_6, hk, go_sem, Nat.reduceAdd, Nat.reduceMul, reduceIte, Nat.reduceLeDiff, Int.reduceLE, Int.reduceLT, Int.reduceToNat, e1, afterIt, lets]
    exact Ends.of ⟨rfl, rfl, rfl⟩
  | m + 1, a :: r, done, env, H, hm, hb, hk => by
    have e1 : (0 : Int) < ((r.length + 1 : Nat) : Int) := by omega
    obtain ⟨c, hlet, hc⟩ := let_rune a r
    have hrun := letter_ok (N := n + 8) (by omega) a r
    rw [hlet] at hrun
    have hsz := rune_size a r
    simp only [List.length_cons] at hsz
    have ih := loop153 (n := n) m ((a :: r).drop (rune (a :: r)).2) (done ++ [(rune (a :: r)).1])
    have e2 : (0 : Int) ≤ ((rune (a :: r)).2 : Int) := by omega
    have e3 : ((rune (a :: r)).2 : Int) ≤ ((r.length + 1 : Nat) : Int) := by omega
    have e4 : ¬ (done.length + 1 ≤ done.length) := by omega
    have e5 : (done.length + 1) * 8 ≤ 140737488355328 := by simp at hb; omega
    have e6 : done.map row1 ++ [[PV.int .i64 ((rune (a :: r)).1 : Int)]] = (done ++ [(rune (a :: r)).1]).map row1 := by simp [row1]
    have e7 : done.length + 1 = (done ++ [(rune (a :: r)).1]).length := by simp
    rw [iter_step]
    generalize iter m (evCode ⟨run tab prim glob (n + 8), glob⟩ (iter (n + 8)) b153_1) = g at ih ⊢
    rw [List.append_assoc] at ih
    have fin : ∀ env2 H2, evGh (.keep [0, 3] [300003]) env2 H2 = some ([(0, .str ((a :: r).drop (rune (a :: r)).2)), (3, .own 300003 0 (done.length + 1) (done.length + 1))], [(300003, .arr 1 (done.map row1 ++ [[PV.int .i64 ((rune (a :: r)).1 : Int)]]))]) →
        Ends (g env2 H2) (fun ex e h => ex = .exit 0 ∧ getT e 3 = .own 300003 0 (done ++ lets (m + 1) (a :: r)).length (done ++ lets (m + 1) (a :: r)).length ∧ hget h 300003 = some (.arr 1 ((done ++ lets (m + 1) (a :: r)).map row1))) := by
      intro env2 H2 h2
      refine ih env2 H2 (by simp at hm ⊢; omega) (by simp at hb ⊢; omega) ?_
      rw [h2, e6, e7]
    rcases hc with ⟨h1, h2⟩ | ⟨h1, h2⟩
    · have e8 : ((65533 : Nat) : Int) = 65533 := rfl
      rw [h2] at fin
      simp only [b153_1, ob153_1_1, ob153_1_2, ob153_1_3, ob153_1_4, ob153_1_5, ob153_1_6, hk, go_sem, Nat.reduceAdd, Nat.reduceMul, reduceIte, Nat.reduceLeDiff, Int.reduceLE, Int.reduceLT, Int.reduceToNat, e1, e2, e3, e4, e5, hrun, h1, afterIt, List.length_map, Nat.beq_refl]
      refine fin _ _ ?_
      simp only [go_sem, Nat.reduceAdd, Nat.reduceMul, reduceIte, Nat.reduceLeDiff, Int.reduceLE, Int.reduceLT, Int.reduceToNat, mentL, ment, ment1, evGh, keepE, keepH]
      rw [List.take_length]
    · rw [← h2] at fin
      simp only [b153_1, ob153_1_1, ob153_1_2, ob153_1_3, ob153_1_4, ob153_1_5, ob153_1_6, hk, go_sem, Nat.reduceAdd, Nat.reduceMul, reduceIte, Nat.reduceLeDiff, Int.reduceLE, Int.reduceLT, Int.reduceToNat, e1, e2, e3, e4, e5, hrun, h1, afterIt, List.length_map, Nat.beq_refl]
      refine fin _ _ ?_
      simp only [go_sem, Nat.reduceAdd, Nat.reduceMul, reduceIte, Nat.reduceLeDiff, Int.reduceLE, Int.reduceLT, Int.reduceToNat, mentL, ment, ment1, evGh, keepE, keepH]
      rw [List.take_length]
theorem letters_ok {N : Nat} (s : List UInt8) (hs : s.length ≤ 1000000000) (hN : s.length + 12 ≤ N) : run tab prim glob N 153 [.str s] = some (.ro ((lets (s.length + 1) s).map row1), []) := by
  obtain ⟨n, rfl⟩ : ∃ n, N = n + 9 := ⟨N - 9, by omega⟩
  rw [enters (n := n + 8) (fn := c153) rfl]
  have hL := fun env H h => loop153 (n := n) (n + 8) s [] env H (by omega) (by simpa using hs) h
  simp only [c153, o153_1, o153_2, o153_3, go_sem, Nat.reduceAdd, Nat.reduceMul, reduceIte, Nat.reduceLeDiff, Int.reduceLE, Int.reduceLT, Int.reduceToNat, evGh]
  generalize iter (n + 8) (evCode ⟨run tab prim glob (n + 8), glob⟩ (iter (n + 8)) b153_1) = g at hL ⊢
  generalize hE : g _ _ = o
  obtain ⟨ex, env', H', rfl, rfl, h5, h6⟩ := Ends.at hL hE (by rfl)
  rw [lets_same (n + 8) (s.length + 1) s (by omega) (by omega), List.nil_append] at h5 h6
  simp only [go_sem, Nat.reduceAdd, Nat.reduceMul, reduceIte, Nat.reduceLeDiff, Int.reduceLE, Int.reduceLT, Int.reduceToNat, h5, h6, List.length_map, Nat.beq_refl]
  rw [List.take_of_length_le (by simp)]
theorem loop139 {n : Nat} (x y : List Nat) (hx : x.length ≤ 1000000000) (hy : y.length ≤ 1000000000) : ∀ (m i : Nat) (env : Env) (H : Heap), x.length + 1 ≤ m + i → i ≤ x.length → i ≤ y.length →
    evGh (.keep [5, 6, 7] []) env H = some ([(5, .ro (x.map row1)), (6, .ro (y.map row1)), (7, .int .i64 i)], []) →
    Ends (iter m (evCode ⟨run tab prim glob (n + 9), glob⟩ (iter (n + 9)) b139_1) env H)
      (fun ex e _ => (ex = .ret ∧ getT e 4 = .int .i64 (cmpL (x.drop i) (y.drop i))) ∨
        (ex = .exit 0 ∧ getT e 5 = .ro (x.map row1) ∧ getT e 6 = .ro (y.map row1) ∧ cmpL (x.drop i) (y.drop i) = if (x.length : Int) < y.length then -1 else if (y.length : Int) < x.length then 1 else 0))
  | 0, i, env, H, hm, hi, hj, hk => by omega
  | m + 1, i, env, H, hm, hi, hj, hk => by
    have ih := loop139 (n := n) x y hx hy m (i + 1)
    rw [iter_step]
    generalize iter m (evCode ⟨run tab prim glob (n + 9), glob⟩ (iter (n + 9)) b139_1) = g at ih ⊢
    by_cases h1 : (i : Int) < (x.length : Int)
    · by_cases h2 : (i : Int) < (y.length : Int)
      · have hxi : i < x.length := by omega
        have hyi : i < y.length := by omega
        have dx : x.drop i = x[i] :: x.drop (i + 1) := List.drop_eq_getElem_cons hxi
        have dy : y.drop i = y[i] :: y.drop (i + 1) := List.drop_eq_getElem_cons hyi
        have gx : (x.map row1)[i]? = some [.int .i64 (x[i] : Int)] := by simp [row1, hxi]
        have gy : (y.map row1)[i]? = some [.int .i64 (y[i] : Int)] := by simp [row1, hyi]
        have z0 : (0 : Int) ≤ (i : Int) := by omega
        have e4 : IntKind.i64.wrap ((i : Int) + 1) = ((i + 1 : Nat) : Int) := cast_add (by omega)
        rw [dx, dy]
        by_cases k1 : (x[i] : Int) < (y[i] : Int)
        · simp only [b139_1, ob139_1_1, ob139_1_2, ob139_1_3, ob139_1_4, ob139_1_5, ob139_1_6, hk, go_sem, Nat.reduceAdd, Nat.reduceMul, reduceIte, Nat.reduceLeDiff, Int.reduceLE, Int.reduceLT, Int.reduceToNat, List.length_map, h1, h2, gx, gy, z0, e4, k1, afterIt, cmpL]
          exact Ends.of (.inl ⟨rfl, rfl⟩)
        · by_cases k2 : (y[i] : Int) < (x[i] : Int)
          · simp only [b139_1, ob139_1_1, ob139_1_2, ob139_1_3, ob139_1_4, ob139_1_5, ob139_1_6, hk, go_sem, Nat.reduceAdd, Nat.reduceMul, reduceIte, Nat.reduceLeDiff, Int.reduceLE, Int.reduceLT, Int.reduceToNat, List.length_map, h1, h2, gx, gy, z0, e4, k1, k2, afterIt, cmpL]
            exact Ends.of (.inl ⟨rfl, rfl⟩)
          · simp only [b139_1, ob139_1_1, ob139_1_2, ob139_1_3, ob139_1_4, ob139_1_5, ob139_1_6, hk, go_sem, Nat.reduceAdd, Nat.reduceMul, reduceIte, Nat.reduceLeDiff, Int.reduceLE, Int.reduceLT, Int.reduceToNat, List.length_map, h1, h2, gx, gy, z0, e4, k1, k2, afterIt, cmpL]
            exact ih _ _ (by omega) (by omega) (by omega) (by simp only [go_sem, Nat.reduceAdd, Nat.reduceMul, reduceIte, Nat.reduceLeDiff, Int.reduceLE, Int.reduceLT, Int.reduceToNat, mentL, ment, ment1, evGh, keepE, keepH])
      · have : y.drop i = [] := List.drop_eq_nil_of_le (by omega)
        simp only [b139_1, ob139_1_1, ob139_1_2, ob139_1_3, ob139_1_4, ob139_1_5, ob139_1_6, hk, go_sem, Nat.reduceAdd, Nat.reduceMul, reduceIte, Nat.reduceLeDiff, Int.reduceLE, Int.reduceLT, Int.reduceToNat, List.length_map, h1, h2, afterIt]
        refine Ends.of (.inr ⟨rfl, rfl, rfl, ?_⟩)
        rw [this, List.drop_eq_getElem_cons (show i < x.length by omega), if_neg (by omega), if_pos (by omega)]
        rfl
    · have hxn : x.drop i = [] := List.drop_eq_nil_of_le (by omega)
      simp only [b139_1, ob139_1_1, ob139_1_2, ob139_1_3, ob139_1_4, ob139_1_5, ob139_1_6, hk, go_sem, Nat.reduceAdd, Nat.reduceMul, reduceIte, Nat.reduceLeDiff, Int.reduceLE, Int.reduceLT, Int.reduceToNat, List.length_map, h1, afterIt]
      refine Ends.of (.inr ⟨rfl, rfl, rfl, ?_⟩)
      rw [hxn]
      by_cases h2 : (x.length : Int) < (y.length : Int)
      · rw [List.drop_eq_getElem_cons (show i < y.length by omega), if_pos h2]; rfl
      · rw [List.drop_eq_nil_of_le (show y.length ≤ i by omega), if_neg h2, if_neg (by omega)]; rfl
theorem lets_len : ∀ (f : Nat) (s : List UInt8), (lets f s).length ≤ s.length
  | 0, _ => by simp [lets]
  | _ + 1, [] => by simp [lets]
  | f + 1, a :: r => by
    have := rune_size a r
    have h := lets_len f ((a :: r).drop (rune (a :: r)).2)
    simp only [lets, List.length_cons]
    simp only [List.length_drop, List.length_cons] at h
    omega
theorem cmp04_ok {N : Nat} (a b : List UInt8) (ha : a.length ≤ 1000000000) (hb : b.length ≤ 1000000000) (hN : a.length + b.length + 20 ≤ N) : run tab prim glob N 139 [.str a, .str b] = some (.int .i64 (keyCmp a b), []) := by
  obtain ⟨n, rfl⟩ : ∃ n, N = n + 10 := ⟨N - 10, by omega⟩
  rw [enters (n := n + 9) (fn := c139) rfl]
  have la := lets_len (a.length + 1) a
  have lb := lets_len (b.length + 1) b
  have h1 := letters_ok (N := n + 9) a ha (by omega)
  have h2 := letters_ok (N := n + 9) b hb (by omega)
  have hL := fun env H h => loop139 (n := n) (lets (a.length + 1) a) (lets (b.length + 1) b) (by omega) (by omega) (n + 9) 0 env H (by omega) (by omega) (by omega) h
  simp only [c139, o139_1, o139_2, o139_3, o139_4, o139_5, o139_6, o139_7, o139_8, go_sem, Nat.reduceAdd, Nat.reduceMul, reduceIte, Nat.reduceLeDiff, Int.reduceLE, Int.reduceLT, Int.reduceToNat, h1, h2]
  generalize iter (n + 9) (evCode ⟨run tab prim glob (n + 9), glob⟩ (iter (n + 9)) b139_1) = g at hL ⊢
  generalize hE : g _ _ = o
  obtain ⟨ex, env', H', rfl, h5⟩ := Ends.at hL hE (by rfl)
  simp only [List.drop_zero] at h5
  rcases h5 with ⟨rfl, h6⟩ | ⟨rfl, h6, h7, h8⟩
  · simp only [go_sem, Nat.reduceAdd, Nat.reduceMul, reduceIte, Nat.reduceLeDiff, Int.reduceLE, Int.reduceLT, Int.reduceToNat, h6, keyCmp]
  · unfold keyCmp
    rw [h8]
    by_cases k1 : ((lets (a.length + 1) a).length : Int) < (lets (b.length + 1) b).length
    · simp only [go_sem, Nat.reduceAdd, Nat.reduceMul, reduceIte, Nat.reduceLeDiff, Int.reduceLE, Int.reduceLT, Int.reduceToNat, h6, h7, List.length_map, k1]
    · by_cases k2 : ((lets (b.length + 1) b).length : Int) < (lets (a.length + 1) a).length
      · simp only [go_sem, Nat.reduceAdd, Nat.reduceMul, reduceIte, Nat.reduceLeDiff, Int.reduceLE, Int.reduceLT, Int.reduceToNat, h6, h7, List.length_map, k1, k2]
      · simp only [go_sem, Nat.reduceAdd, Nat.reduceMul, reduceIte, Nat.reduceLeDiff, Int.reduceLE, Int.reduceLT, Int.reduceToNat, h6, h7, List.length_map, k1, k2]
end Go.Proofs.YtefoleocbhkobaaGreatDoor
namespace Go.Proofs.YtefoleocbhkobaaGreatDoor
open Go Go.Ev
set_option linter.unusedSectionVars false
set_option linter.unusedSimpArgs false
set_option linter.unusedVariables false
def spanRight (lo hi : List UInt8) : Bool := (decide (lo = []) || keyRight lo) && (decide (hi = []) || (keyRight hi && decide (keyCmp lo hi < 0)))
def span (lo hi : List UInt8) : PV := .agg [.str lo, .str hi]
theorem cmpL_three : ∀ a b : List Nat, cmpL a b = -1 ∨ cmpL a b = 0 ∨ cmpL a b = 1
  | [], [] => .inr (.inl rfl)
  | [], _ :: _ => .inl rfl
  | _ :: _, [] => .inr (.inr rfl)
  | x :: xs, y :: ys => by
    simp only [cmpL]
    split
    · exact .inl rfl
    · split
      · exact .inr (.inr rfl)
      · exact cmpL_three xs ys
theorem keyCmp_neg (a b : List UInt8) : (keyCmp a b = -1) = (keyCmp a b < 0) := by
  have := cmpL_three (lets (a.length + 1) a) (lets (b.length + 1) b)
  unfold keyCmp
  rw [eq_iff_iff]; omega
theorem spanR_ok {N B : Nat} (lo hi : List UInt8) (h1 : lo.length ≤ B) (h2 : hi.length ≤ B) (hB : B ≤ 1000000000) (hN : 10 * B + 30 ≤ N) : run tab prim glob N 108 [.agg [.str lo, .str hi]] = some (.bool (spanRight lo hi), []) := by
  obtain ⟨n, rfl⟩ : ∃ n, N = n + 1 := ⟨N - 1, by omega⟩
  rw [enters (fn := c108) rfl]
  have r1 := keyRight_ok (N := n) lo (by omega) (by omega)
  have r2 := keyRight_ok (N := n) hi (by omega) (by omega)
  have r3 := cmp_ok (N := n) lo hi (by omega)
  by_cases hlo : lo = []
  · by_cases hhi : hi = []
    · simp only [c108, o108_1, o108_2, o108_3, o108_4, go_sem, Nat.reduceAdd, Nat.reduceMul, reduceIte, Nat.reduceLeDiff, Int.reduceLE, Int.reduceLT, Int.reduceToNat, r1, r2, r3, hlo, hhi, spanRight]
    · cases hr : keyRight hi
      · rw [hr] at r2
        simp only [c108, o108_1, o108_2, o108_3, o108_4, go_sem, Nat.reduceAdd, Nat.reduceMul, reduceIte, Nat.reduceLeDiff, Int.reduceLE, Int.reduceLT, Int.reduceToNat, r1, r2, r3, hlo, hhi, spanRight, hr]
      · rw [hr] at r2
        rw [hlo] at r3
        simp only [c108, o108_1, o108_2, o108_3, o108_4, go_sem, Nat.reduceAdd, Nat.reduceMul, reduceIte, Nat.reduceLeDiff, Int.reduceLE, Int.reduceLT, Int.reduceToNat, r1, r2, r3, hlo, hhi, spanRight, hr]
  · cases hb : keyRight lo
    · rw [hb] at r1
      simp only [c108, o108_1, o108_2, o108_3, o108_4, go_sem, Nat.reduceAdd, Nat.reduceMul, reduceIte, Nat.reduceLeDiff, Int.reduceLE, Int.reduceLT, Int.reduceToNat, r1, hlo, spanRight, hb]
    · rw [hb] at r1
      by_cases hhi : hi = []
      · simp only [c108, o108_1, o108_2, o108_3, o108_4, go_sem, Nat.reduceAdd, Nat.reduceMul, reduceIte, Nat.reduceLeDiff, Int.reduceLE, Int.reduceLT, Int.reduceToNat, r1, r2, r3, hlo, hhi, spanRight, hb]
      · cases hr : keyRight hi
        · rw [hr] at r2
          simp only [c108, o108_1, o108_2, o108_3, o108_4, go_sem, Nat.reduceAdd, Nat.reduceMul, reduceIte, Nat.reduceLeDiff, Int.reduceLE, Int.reduceLT, Int.reduceToNat, r1, r2, r3, hlo, hhi, spanRight, hb, hr]
        · rw [hr] at r2
          simp only [c108, o108_1, o108_2, o108_3, o108_4, go_sem, Nat.reduceAdd, Nat.reduceMul, reduceIte, Nat.reduceLeDiff, Int.reduceLE, Int.reduceLT, Int.reduceToNat, r1, r2, r3, hlo, hhi, spanRight, hb, hr]
theorem spanR09_ok {N B : Nat} (lo hi : List UInt8) (h1 : lo.length ≤ B) (h2 : hi.length ≤ B) (hB : B ≤ 1000000000) (hN : 10 * B + 30 ≤ N) : run tab prim glob N 118 [.agg [.str lo, .str hi]] = some (.bool (spanRight lo hi), []) := by
  obtain ⟨n, rfl⟩ : ∃ n, N = n + 1 := ⟨N - 1, by omega⟩
  rw [enters (fn := c118) rfl]
  have r1 := keyRight04_ok (N := n) lo (by omega) (by omega)
  have r2 := keyRight04_ok (N := n) hi (by omega) (by omega)
  have r3 := cmp04_ok (N := n) lo hi (by omega) (by omega) (by omega)
  have e1 : ((0 : Int) < (lo.length : Int)) = ¬ (lo = []) := by
    rw [eq_iff_iff, ← List.length_eq_zero_iff]; omega
  have e2 : ((hi.length : Int) = 0) = (hi = []) := by
    rw [eq_iff_iff, ← List.length_eq_zero_iff]; omega
  have e3 := keyCmp_neg lo hi
  by_cases hlo : lo = []
  · by_cases hhi : hi = []
    · subst hlo; subst hhi
      simp only [c118, o118_1, o118_2, o118_3, o118_4, o118_5, o118_6, go_sem, Nat.reduceAdd, Nat.reduceMul, reduceIte, Nat.reduceLeDiff, Int.reduceLE, Int.reduceLT, Int.reduceToNat, spanRight]
    · cases hr : keyRight hi
      · rw [hr] at r2
        subst hlo
        simp only [c118, o118_1, o118_2, o118_3, o118_4, o118_5, o118_6, go_sem, Nat.reduceAdd, Nat.reduceMul, reduceIte, Nat.reduceLeDiff, Int.reduceLE, Int.reduceLT, Int.reduceToNat, r1, r2, r3, hhi, spanRight, hr, e2, Int.lt_irrefl]
      · rw [hr] at r2
        subst hlo
        simp only [c118, o118_1, o118_2, o118_3, o118_4, o118_5, o118_6, go_sem, Nat.reduceAdd, Nat.reduceMul, reduceIte, Nat.reduceLeDiff, Int.reduceLE, Int.reduceLT, Int.reduceToNat, r1, r2, r3, hhi, spanRight, hr, e2, e3, Int.lt_irrefl]
  · cases hb : keyRight lo
    · rw [hb] at r1
      simp only [c118, o118_1, o118_2, o118_3, o118_4, o118_5, o118_6, go_sem, Nat.reduceAdd, Nat.reduceMul, reduceIte, Nat.reduceLeDiff, Int.reduceLE, Int.reduceLT, Int.reduceToNat, r1, hlo, spanRight, hb, e1, not_false_iff]
    · rw [hb] at r1
      by_cases hhi : hi = []
      · simp only [c118, o118_1, o118_2, o118_3, o118_4, o118_5, o118_6, go_sem, Nat.reduceAdd, Nat.reduceMul, reduceIte, Nat.reduceLeDiff, Int.reduceLE, Int.reduceLT, Int.reduceToNat, r1, r2, r3, hlo, hhi, spanRight, hb, e1, e2, not_false_iff, Int.cast_ofNat_Int]
      · cases hr : keyRight hi
        · rw [hr] at r2
          simp only [c118, o118_1, o118_2, o118_3, o118_4, o118_5, o118_6, go_sem, Nat.reduceAdd, Nat.reduceMul, reduceIte, Nat.reduceLeDiff, Int.reduceLE, Int.reduceLT, Int.reduceToNat, r1, r2, r3, hlo, hhi, spanRight, hb, hr, e1, e2, not_false_iff]
        · rw [hr] at r2
          simp only [c118, o118_1, o118_2, o118_3, o118_4, o118_5, o118_6, go_sem, Nat.reduceAdd, Nat.reduceMul, reduceIte, Nat.reduceLeDiff, Int.reduceLE, Int.reduceLT, Int.reduceToNat, r1, r2, r3, hlo, hhi, spanRight, hb, hr, e1, e2, e3, not_false_iff]
structure Sp where
  lo : List UInt8
  hi : List UInt8
def Sp.cells (s : Sp) : List PV := [.str s.lo, .str s.hi]
def Sp.small (B : Nat) (s : Sp) : Prop := s.lo.length ≤ B ∧ s.hi.length ≤ B
def wholeFrom (behind : Bool) (last : List UInt8) : List Sp → Bool
  | [] => decide (last = [])
  | s :: r => spanRight s.lo s.hi && decide (s.lo = last) && !(behind && decide (last = [])) && wholeFrom true s.hi r
def whole (l : List Sp) : Bool := decide (0 < (l.length : Int)) && wholeFrom false [] l
def WholeEnds (l : List Sp) (v : Bool) : Ex → Env → Heap → Prop := fun ex e _ =>
  (ex = .ret ∧ getT e 2 = .bool false ∧ v = false) ∨ (ex = .exit 0 ∧ getT e 0 = .ro (l.map Sp.cells) ∧ ∃ z, getT e 3 = .str z ∧ v = decide (z = []))
theorem loop82 {n B : Nat} (l : List Sp) (hB : B ≤ 1000000000) (hl : l.length ≤ B) (hs : ∀ s ∈ l, s.small B) (hN : 10 * B + 30 ≤ n) : ∀ (rest pre : List Sp) (last : List UInt8) (m : Nat) (env : Env) (H : Heap), l = pre ++ rest → rest.length + 1 ≤ m →
    evGh (.keep [0, 3, 6, 7, 8] []) env H = some ([(0, .ro (l.map Sp.cells)), (3, .str last), (6, .ro (l.map Sp.cells)), (7, .int .i64 l.length), (8, .int .i64 pre.length)], []) →
    Ends (iter m (evCode ⟨run tab prim glob n, glob⟩ (iter n) b82_1) env H)
      (WholeEnds l (wholeFrom (decide (0 < pre.length)) last rest))
  | [], pre, last, m + 1, env, H, hp, hm, hk => by
    have e1 : pre.length = l.length := by rw [hp]; simp
    rw [iter_step]
    generalize iter m (evCode ⟨run tab prim glob n, glob⟩ (iter n) b82_1) = g
    simp only [b82_1, ob82_1_1, ob82_1_2, ob82_1_3, ob82_1_4, ob82_1_5, ob82_1_6, hk, go_sem, Nat.reduceAdd, Nat.reduceMul, reduceIte, Nat.reduceLeDiff, Int.reduceLE, Int.reduceLT, Int.reduceToNat, e1, Int.lt_irrefl, afterIt]
    exact Ends.of (.inr ⟨rfl, rfl, last, rfl, rfl⟩)
  | s :: rest, pre, last, m + 1, env, H, hp, hm, hk => by
    have e0 : pre.length < l.length := by rw [hp]; simp
    have e1 : (pre.length : Int) < (l.length : Int) := by omega
    have e2 : (0 : Int) ≤ (pre.length : Int) := by omega
    have e3 : (l.map Sp.cells)[pre.length]? = some [.str s.lo, .str s.hi] := by rw [hp]; simp [Sp.cells]
    have e4 : IntKind.i64.wrap ((pre.length : Int) + 1) = ((pre.length + 1 : Nat) : Int) := cast_add (by omega)
    obtain ⟨q1, q2⟩ := hs s (by rw [hp]; simp)
    have hr := spanR_ok (N := n) s.lo s.hi q1 q2 hB hN
    have ih := loop82 (n := n) l hB hl hs hN rest (pre ++ [s]) s.hi m
    have e5 : decide (0 < (pre ++ [s]).length) = true := by simp
    rw [e5] at ih
    rw [iter_step]
    generalize iter m (evCode ⟨run tab prim glob n, glob⟩ (iter n) b82_1) = g at ih ⊢
    have e6 : ((0 : Int) < (pre.length : Int)) = (0 < pre.length) := by simp
    cases h1 : spanRight s.lo s.hi
    · rw [h1] at hr
      simp only [b82_1, ob82_1_1, ob82_1_2, ob82_1_3, ob82_1_4, ob82_1_5, ob82_1_6, hk, go_sem, Nat.reduceAdd, Nat.reduceMul, reduceIte, Nat.reduceLeDiff, Int.reduceLE, Int.reduceLT, Int.reduceToNat, e1, e2, e3, e4, hr, afterIt, wholeFrom, h1]
      exact Ends.of (.inl ⟨rfl, rfl, rfl⟩)
    · rw [h1] at hr
      by_cases h2 : s.lo = last
      · subst h2
        have fin : ∀ env2 H2, evGh (.keep [0, 3, 6, 7, 8] []) env2 H2 = some ([(0, .ro (l.map Sp.cells)), (3, .str s.hi), (6, .ro (l.map Sp.cells)), (7, .int .i64 l.length), (8, .int .i64 ((pre.length + 1 : Nat) : Int))], []) →
            Ends (g env2 H2) (WholeEnds l (wholeFrom true s.hi rest)) := by
          intro env2 H2 h
          refine ih env2 H2 (by rw [hp]; simp) (by simp at hm; omega) ?_
          rw [h]; simp
        by_cases h3 : 0 < pre.length
        · by_cases h4 : s.lo = []
          · have h4 := eq_true h4
            simp only [b82_1, ob82_1_1, ob82_1_2, ob82_1_3, ob82_1_4, ob82_1_5, ob82_1_6, hk, go_sem, Nat.reduceAdd, Nat.reduceMul, reduceIte, Nat.reduceLeDiff, Int.reduceLE, Int.reduceLT, Int.reduceToNat, e1, e2, e3, e4, e6, hr, afterIt, wholeFrom, h1, h3, h4]
            exact Ends.of (.inl ⟨rfl, rfl, rfl⟩)
          · simp only [b82_1, ob82_1_1, ob82_1_2, ob82_1_3, ob82_1_4, ob82_1_5, ob82_1_6, hk, go_sem, Nat.reduceAdd, Nat.reduceMul, reduceIte, Nat.reduceLeDiff, Int.reduceLE, Int.reduceLT, Int.reduceToNat, e1, e2, e3, e4, e6, hr, afterIt, wholeFrom, h1, h3, h4]
            exact fin _ _ rfl
        · simp only [b82_1, ob82_1_1, ob82_1_2, ob82_1_3, ob82_1_4, ob82_1_5, ob82_1_6, hk, go_sem, Nat.reduceAdd, Nat.reduceMul, reduceIte, Nat.reduceLeDiff, Int.reduceLE, Int.reduceLT, Int.reduceToNat, e1, e2, e3, e4, e6, hr, afterIt, wholeFrom, h1, h3]
          exact fin _ _ rfl
      · simp only [b82_1, ob82_1_1, ob82_1_2, ob82_1_3, ob82_1_4, ob82_1_5, ob82_1_6, hk, go_sem, Nat.reduceAdd, Nat.reduceMul, reduceIte, Nat.reduceLeDiff, Int.reduceLE, Int.reduceLT, Int.reduceToNat, e1, e2, e3, e4, hr, afterIt, wholeFrom, h1, h2]
        exact Ends.of (.inl ⟨rfl, rfl, rfl⟩)
theorem whole_ok {N B : Nat} (l : List Sp) (hB : B ≤ 1000000000) (hl : l.length ≤ B) (hs : ∀ s ∈ l, s.small B) (hN : 10 * B + 40 ≤ N) : run tab prim glob N 82 [.ro (l.map Sp.cells)] = some (.bool (whole l), []) := by
  obtain ⟨n, rfl⟩ : ∃ n, N = n + 1 := ⟨N - 1, by omega⟩
  rw [enters (fn := c82) rfl]
  have hL := fun env H h => loop82 (n := n) l hB hl hs (by omega) l [] [] n env H rfl (by omega) h
  simp only [c82, o82_1, o82_2, o82_3, o82_4, go_sem, Nat.reduceAdd, Nat.reduceMul, reduceIte, Nat.reduceLeDiff, Int.reduceLE, Int.reduceLT, Int.reduceToNat, List.length_map]
  generalize iter n (evCode ⟨run tab prim glob n, glob⟩ (iter n) b82_1) = g at hL ⊢
  generalize hE : g _ _ = o
  obtain ⟨ex, env', H', rfl, h5⟩ := Ends.at hL hE (by rfl)
  rw [show decide (0 < ([] : List Sp).length) = false from rfl] at h5
  rcases h5 with ⟨rfl, h6, h7⟩ | ⟨rfl, h6, z, h7, h8⟩
  · simp only [go_sem, Nat.reduceAdd, Nat.reduceMul, reduceIte, Nat.reduceLeDiff, Int.reduceLE, Int.reduceLT, Int.reduceToNat, h6, whole, h7]
  · by_cases h9 : (0 : Int) < (l.length : Int)
    · simp only [go_sem, Nat.reduceAdd, Nat.reduceMul, reduceIte, Nat.reduceLeDiff, Int.reduceLE, Int.reduceLT, Int.reduceToNat, h6, h7, h8, whole, List.length_map, h9]
    · simp only [go_sem, Nat.reduceAdd, Nat.reduceMul, reduceIte, Nat.reduceLeDiff, Int.reduceLE, Int.reduceLT, Int.reduceToNat, h6, h7, h8, whole, List.length_map, h9]
end Go.Proofs.YtefoleocbhkobaaGreatDoor
namespace Go.Proofs.YtefoleocbhkobaaGreatDoor
open Go Go.Ev
set_option linter.unusedSectionVars false
set_option linter.unusedSimpArgs false
set_option linter.unusedVariables false
def joinPV (alo ahi blo bhi : List UInt8) : PV :=
  if spanRight alo ahi && spanRight blo bhi then
    if !decide (ahi = []) && decide (ahi = blo) then .tuple [.agg [.str alo, .str bhi], .int .i64 0] else .tuple [.agg [.str [], .str []], .int .i64 9]
  else .tuple [.agg [.str [], .str []], .int .i64 1]
theorem join_ok {N B : Nat} (alo ahi blo bhi : List UInt8) (h1 : alo.length ≤ B) (h2 : ahi.length ≤ B) (h3 : blo.length ≤ B) (h4 : bhi.length ≤ B) (hB : B ≤ 1000000000) (hN : 10 * B + 40 ≤ N) :
    run tab prim glob N 95 [.agg [.str alo, .str ahi], .agg [.str blo, .str bhi]] = some (joinPV alo ahi blo bhi, []) := by
  obtain ⟨n, rfl⟩ : ∃ n, N = n + 1 := ⟨N - 1, by omega⟩
  rw [enters (fn := c95) rfl]
  have r1 := spanR09_ok (N := n) alo ahi h1 h2 hB (by omega)
  have r2 := spanR09_ok (N := n) blo bhi h3 h4 hB (by omega)
  have e2 : ((ahi.length : Int) = 0) = (ahi = []) := by
    rw [eq_iff_iff, ← List.length_eq_zero_iff]; omega
  cases k1 : spanRight alo ahi
  · rw [k1] at r1
    simp only [c95, o95_1, o95_2, o95_3, o95_4, o95_5, o95_6, go_sem, Nat.reduceAdd, Nat.reduceMul, reduceIte, Nat.reduceLeDiff, Int.reduceLE, Int.reduceLT, Int.reduceToNat, r1, joinPV, k1, Bool.false_eq_true]
  · rw [k1] at r1
    cases k2 : spanRight blo bhi
    · rw [k2] at r2
      simp only [c95, o95_1, o95_2, o95_3, o95_4, o95_5, o95_6, go_sem, Nat.reduceAdd, Nat.reduceMul, reduceIte, Nat.reduceLeDiff, Int.reduceLE, Int.reduceLT, Int.reduceToNat, r1, r2, joinPV, k1, k2, Bool.false_eq_true]
    · rw [k2] at r2
      by_cases k3 : ahi = []
      · have k4 := eq_true k3
        simp only [c95, o95_1, o95_2, o95_3, o95_4, o95_5, o95_6, go_sem, Nat.reduceAdd, Nat.reduceMul, reduceIte, Nat.reduceLeDiff, Int.reduceLE, Int.reduceLT, Int.reduceToNat, r1, r2, joinPV, k1, k2, e2, k4, Bool.false_eq_true]
      · by_cases k4 : ahi = blo
        · have k5 := eq_true k4
          simp only [c95, o95_1, o95_2, o95_3, o95_4, o95_5, o95_6, go_sem, Nat.reduceAdd, Nat.reduceMul, reduceIte, Nat.reduceLeDiff, Int.reduceLE, Int.reduceLT, Int.reduceToNat, r1, r2, joinPV, k1, k2, e2, k3, k5, Bool.false_eq_true]
        · simp only [c95, o95_1, o95_2, o95_3, o95_4, o95_5, o95_6, go_sem, Nat.reduceAdd, Nat.reduceMul, reduceIte, Nat.reduceLeDiff, Int.reduceLE, Int.reduceLT, Int.reduceToNat, r1, r2, joinPV, k1, k2, e2, k3, k4, Bool.false_eq_true]
def joinFrom (slo shi : List UInt8) : List Sp → Bool
  | [] => decide (slo = []) && decide (shi = [])
  | t :: r => (spanRight slo shi && spanRight t.lo t.hi && (!decide (shi = []) && decide (shi = t.lo))) && joinFrom slo t.hi r
def JoinEnds (v : Bool) : Ex → Env → Heap → Prop := fun ex e h =>
  (ex = .ret ∧ getT e 2 = .bool false ∧ v = false) ∨ (ex = .exit 0 ∧ getT e 3 = .ptr 100003 0 ∧ ∃ x y, hget h 100003 = some (.box [.str x, .str y]) ∧ v = (decide (x = []) && decide (y = [])))
theorem loop86 {n B : Nat} (l : List Sp) (hB : B ≤ 1000000000) (hl : l.length ≤ B) (hs : ∀ s ∈ l, s.small B) (hN : 10 * B + 40 ≤ n) (slo : List UInt8) (hslo : slo.length ≤ B) : ∀ (rest pre : List Sp) (shi : List UInt8) (m : Nat) (env : Env) (H : Heap), l = pre ++ rest → shi.length ≤ B → rest.length + 1 ≤ m →
    evGh (.keep [0, 3, 4] [100003]) env H = some ([(0, .ro (l.map Sp.cells)), (3, .ptr 100003 0), (4, .int .i64 pre.length)], [(100003, .box [.str slo, .str shi])]) →
    Ends (iter m (evCode ⟨run tab prim glob n, glob⟩ (iter n) b86_1) env H) (JoinEnds (joinFrom slo shi rest))
  | [], pre, shi, m + 1, env, H, hp, hh, hm, hk => by
    have e1 : pre.length = l.length := by rw [hp]; simp
    rw [iter_step]
    generalize iter m (evCode ⟨run tab prim glob n, glob⟩ (iter n) b86_1) = g
    simp only [b86_1, ob86_1_1, ob86_1_2, ob86_1_3, ob86_1_4, ob86_1_5, ob86_1_6, hk, go_sem, Nat.reduceAdd, Nat.reduceMul, reduceIte, Nat.reduceLeDiff, Int.reduceLE, Int.reduceLT, Int.reduceToNat, e1, List.length_map, Int.lt_irrefl, afterIt]
    exact Ends.of (.inr ⟨rfl, rfl, slo, shi, rfl, rfl⟩)
  | s :: rest, pre, shi, m + 1, env, H, hp, hh, hm, hk => by
    have e0 : pre.length < l.length := by rw [hp]; simp
    have e1 : (pre.length : Int) < (l.length : Int) := by omega
    have e2 : (0 : Int) ≤ (pre.length : Int) := by omega
    have e3 : (l.map Sp.cells)[pre.length]? = some [.str s.lo, .str s.hi] := by rw [hp]; simp [Sp.cells]
    have e4 : IntKind.i64.wrap ((pre.length : Int) + 1) = ((pre.length + 1 : Nat) : Int) := cast_add (by omega)
    obtain ⟨q1, q2⟩ := hs s (by rw [hp]; simp)
    have hr := join_ok (N := n) slo shi s.lo s.hi hslo hh q1 q2 hB hN
    have ih := loop86 (n := n) l hB hl hs hN slo hslo rest (pre ++ [s]) s.hi m
    rw [iter_step]
    generalize iter m (evCode ⟨run tab prim glob n, glob⟩ (iter n) b86_1) = g at ih ⊢
    unfold joinPV at hr
    cases k1 : (spanRight slo shi && spanRight s.lo s.hi)
    · rw [k1] at hr
      simp only [Bool.false_eq_true, if_false] at hr
      simp only [b86_1, ob86_1_1, ob86_1_2, ob86_1_3, ob86_1_4, ob86_1_5, ob86_1_6, hk, go_sem, Nat.reduceAdd, Nat.reduceMul, reduceIte, Nat.reduceLeDiff, Int.reduceLE, Int.reduceLT, Int.reduceToNat, e1, e2, e3, e4, List.length_map, hr, afterIt, joinFrom, k1]
      exact Ends.of (.inl ⟨rfl, rfl, rfl⟩)
    · rw [k1] at hr
      cases k2 : (!decide (shi = []) && decide (shi = s.lo))
      · rw [k2] at hr
        simp only [if_true, Bool.false_eq_true, if_false] at hr
        simp only [b86_1, ob86_1_1, ob86_1_2, ob86_1_3, ob86_1_4, ob86_1_5, ob86_1_6, hk, go_sem, Nat.reduceAdd, Nat.reduceMul, reduceIte, Nat.reduceLeDiff, Int.reduceLE, Int.reduceLT, Int.reduceToNat, e1, e2, e3, e4, List.length_map, hr, afterIt, joinFrom, k1, k2]
        exact Ends.of (.inl ⟨rfl, rfl, rfl⟩)
      · rw [k2] at hr
        simp only [if_true] at hr
        simp only [b86_1, ob86_1_1, ob86_1_2, ob86_1_3, ob86_1_4, ob86_1_5, ob86_1_6, hk, go_sem, Nat.reduceAdd, Nat.reduceMul, reduceIte, Nat.reduceLeDiff, Int.reduceLE, Int.reduceLT, Int.reduceToNat, e1, e2, e3, e4, List.length_map, hr, afterIt, joinFrom, k1, k2]
        refine ih _ _ (by rw [hp]; simp) q2 (by simp at hm; omega) ?_
        rw [List.length_append]; rfl
def whole09 : List Sp → Bool
  | [] => false
  | s :: r => spanRight s.lo s.hi && joinFrom s.lo s.hi r
theorem whole09_ok {N B : Nat} (l : List Sp) (hB : B ≤ 1000000000) (hl : l.length ≤ B) (hs : ∀ s ∈ l, s.small B) (hN : 10 * B + 50 ≤ N) : run tab prim glob N 86 [.ro (l.map Sp.cells)] = some (.bool (whole09 l), []) := by
  obtain ⟨n, rfl⟩ : ∃ n, N = n + 1 := ⟨N - 1, by omega⟩
  rw [enters (fn := c86) rfl]
  match l, hl, hs with
  | [], hl, hs =>
    simp only [c86, o86_1, o86_2, o86_3, o86_4, o86_5, o86_6, go_sem, Nat.reduceAdd, Nat.reduceMul, reduceIte, Nat.reduceLeDiff, Int.reduceLE, Int.reduceLT, Int.reduceToNat, whole09]
  | s :: r, hl, hs =>
    obtain ⟨q1, q2⟩ := hs s (.head _)
    have hr := spanR09_ok (N := n) s.lo s.hi q1 q2 hB (by omega)
    have e1 : (((r.length + 1 : Nat) : Int) = 0) = False := by simp; omega
    have hL := fun env H h => loop86 (n := n) (s :: r) hB hl hs (by omega) s.lo q1 r [s] s.hi n env H rfl q2 (by simp at hl; omega) h
    cases k1 : spanRight s.lo s.hi
    · rw [k1] at hr
      simp only [c86, o86_1, o86_2, o86_3, o86_4, o86_5, o86_6, go_sem, Nat.reduceAdd, Nat.reduceMul, reduceIte, Nat.reduceLeDiff, Int.reduceLE, Int.reduceLT, Int.reduceToNat, List.length_map, e1, Sp.cells, hr, whole09, k1, Int.le_refl]
    · rw [k1] at hr
      simp only [c86, o86_1, o86_2, o86_3, o86_4, o86_5, o86_6, go_sem, Nat.reduceAdd, Nat.reduceMul, reduceIte, Nat.reduceLeDiff, Int.reduceLE, Int.reduceLT, Int.reduceToNat, List.length_map, e1, Sp.cells, hr, whole09, k1, Int.le_refl]
      generalize iter n (evCode ⟨run tab prim glob n, glob⟩ (iter n) b86_1) = g at hL ⊢
      generalize hE : g _ _ = o
      obtain ⟨ex, env', H', rfl, h5⟩ := Ends.at hL hE (by rfl)
      rcases h5 with ⟨rfl, h6, h7⟩ | ⟨rfl, h6, x, y, h7, h8⟩
      · simp only [go_sem, Nat.reduceAdd, Nat.reduceMul, reduceIte, Nat.reduceLeDiff, Int.reduceLE, Int.reduceLT, Int.reduceToNat, h6, h7]
      · simp only [go_sem, Nat.reduceAdd, Nat.reduceMul, reduceIte, Nat.reduceLeDiff, Int.reduceLE, Int.reduceLT, Int.reduceToNat, h6, h7, h8]
theorem keyCmp_empty {hi : List UInt8} (h : hi ≠ []) : keyCmp [] hi < 0 := by
  cases hi with
  | nil => exact absurd rfl h
  | cons a r => simp [keyCmp, lets, cmpL]
theorem join_other {slo : List UInt8} (h : slo ≠ []) : ∀ (r : List Sp) (shi : List UInt8), joinFrom slo shi r = false
  | [], _ => by simp [joinFrom, h]
  | t :: r, shi => by simp only [joinFrom, join_other h r t.hi, Bool.and_false]
theorem join_whole : ∀ (r : List Sp) (shi : List UInt8), spanRight [] shi = true → joinFrom [] shi r = wholeFrom true shi r
  | [], shi, _ => by simp [joinFrom, wholeFrom]
  | t :: r, shi, h => by
    simp only [joinFrom, wholeFrom, h, Bool.true_and]
    cases k1 : spanRight t.lo t.hi
    · simp
    · by_cases k2 : shi = []
      · simp [k2]
      · by_cases k3 : shi = t.lo
        · subst k3
          have k4 : spanRight [] t.hi = true := by
            by_cases k5 : t.hi = []
            · simp [spanRight, k5]
            · have : keyRight t.hi = true := by
                simp only [spanRight, k5, decide_false, Bool.false_or, Bool.and_eq_true] at k1
                exact k1.2.1
              simp [spanRight, this, keyCmp_empty k5]
          rw [join_whole r t.hi k4]
          simp [k2]
        · have k4 : ¬ (t.lo = shi) := fun h => k3 h.symm
          simp [k3, k4]
theorem whole_same (l : List Sp) : whole09 l = whole l := by
  cases l with
  | nil => rfl
  | cons s r =>
    have h0 : decide ((0 : Int) < ((s :: r).length : Int)) = true := by simp <;> omega
    simp only [whole09, whole, h0, Bool.true_and, wholeFrom, Bool.false_and, Bool.not_false, Bool.and_true]
    cases k1 : spanRight s.lo s.hi
    · simp
    · by_cases k2 : s.lo = []
      · rw [k2] at k1 ⊢
        rw [join_whole r s.hi k1]; simp
      · rw [join_other k2]; simp [k2]
end Go.Proofs.YtefoleocbhkobaaGreatDoor
namespace Go.Proofs.YtefoleocbhkobaaGreatDoor
open Go Go.Ev
set_option linter.unusedSectionVars false
set_option linter.unusedSimpArgs false
set_option linter.unusedVariables false
def Pl.small (B : Nat) (p : Pl) : Prop := p.lo.length ≤ B ∧ p.hi.length ≤ B
def Pl.span (p : Pl) : Sp := ⟨p.lo, p.hi⟩
def idxFrom (f : Pl → Bool) (i : Nat) : List Pl → Int
  | [] => -1
  | p :: r => if f p then (i : Int) else idxFrom f (i + 1) r
theorem idx_any (f : Pl → Bool) : ∀ (l : List Pl) (i : Nat), decide (0 ≤ idxFrom f i l) = l.any f
  | [], i => by simp [idxFrom]
  | p :: r, i => by
    simp only [idxFrom, List.any_cons]
    by_cases h : f p = true
    · simp [h]
    · have := idx_any f r (i + 1)
      simp [h] at this ⊢
      exact this
theorem loop117 {n : Nat} (l : List Pl) (hl : l.length ≤ 1000000000) (g : Nat) (cs : List PV) (f : Pl → Bool) (hg : ∀ p ∈ l, run tab prim glob n g [.agg p.cells, .rptr cs] = some (.bool (f p), [])) : ∀ (rest pre : List Pl) (m : Nat) (env : Env) (H : Heap), l = pre ++ rest → rest.length + 1 ≤ m →
    evGh (.keep [0, 1, 7, 8] []) env H = some ([(0, .ro (l.map Pl.cells)), (1, .func g [.rptr cs]), (7, .int .i64 l.length), (8, .int .i64 pre.length)], []) →
    Ends (iter m (evCode ⟨run tab prim glob n, glob⟩ (iter n) b117_1) env H) (fun ex e _ => if idxFrom f pre.length rest = -1 then ex = .exit 0 else ex = .ret ∧ getT e 4 = .int .i64 (idxFrom f pre.length rest))
  | [], pre, m + 1, env, H, hp, hm, hk => by
    have e1 : pre.length = l.length := by rw [hp]; simp
    rw [iter_step]
    generalize iter m (evCode ⟨run tab prim glob n, glob⟩ (iter n) b117_1) = g
    simp only [b117_1, ob117_1_1, ob117_1_2, ob117_1_3, ob117_1_4, ob117_1_5, hk, go_sem, Nat.reduceAdd, Nat.reduceMul, reduceIte, Nat.reduceLeDiff, Int.reduceLE, Int.reduceLT, Int.reduceToNat, e1, Int.lt_irrefl, afterIt, idxFrom]
    exact Ends.of rfl
  | x :: rest, pre, m + 1, env, H, hp, hm, hk => by
    have e0 : pre.length < l.length := by rw [hp]; simp
    have e1 : (pre.length : Int) < (l.length : Int) := by omega
    have e2 : (0 : Int) ≤ (pre.length : Int) := by omega
    have e3 : (l.map Pl.cells)[pre.length]? = some [.str x.lo, .str x.hi, .int .i64 x.shard, .int .i64 x.cell, .int .i64 x.epoch] := by rw [hp]; simp [Pl.cells]
    have e4 : IntKind.i64.wrap ((pre.length : Int) + 1) = ((pre.length + 1 : Nat) : Int) := cast_add (by omega)
    have hr := hg x (by rw [hp]; simp)
    have ih := loop117 (n := n) l hl g cs f hg rest (pre ++ [x]) m
    rw [iter_step]
    generalize iter m (evCode ⟨run tab prim glob n, glob⟩ (iter n) b117_1) = gg at ih ⊢
    simp only [Pl.cells] at hr
    cases k1 : f x
    · rw [k1] at hr
      simp only [b117_1, ob117_1_1, ob117_1_2, ob117_1_3, ob117_1_4, ob117_1_5, hk, go_sem, Nat.reduceAdd, Nat.reduceMul, reduceIte, Nat.reduceLeDiff, Int.reduceLE, Int.reduceLT, Int.reduceToNat, e1, e2, e3, e4, hr, afterIt, idxFrom, k1]
      rw [show pre.length + 1 = (pre ++ [x]).length by simp]
      simp only [Bool.false_eq_true, if_false]
      refine ih _ _ (by rw [hp]; simp) (by simp at hm; omega) ?_
      rfl
    · rw [k1] at hr
      have e5 : ¬ ((pre.length : Int) = -1) := by omega
      simp only [b117_1, ob117_1_1, ob117_1_2, ob117_1_3, ob117_1_4, ob117_1_5, hk, go_sem, Nat.reduceAdd, Nat.reduceMul, reduceIte, Nat.reduceLeDiff, Int.reduceLE, Int.reduceLT, Int.reduceToNat, e1, e2, e3, e4, hr, afterIt, idxFrom, k1, e5]
      exact Ends.of ⟨rfl, rfl⟩
theorem index_ok {N : Nat} (l : List Pl) (hl : l.length ≤ 1000000000) (g : Nat) (cs : List PV) (f : Pl → Bool) (hg : ∀ p ∈ l, run tab prim glob (N - 1) g [.agg p.cells, .rptr cs] = some (.bool (f p), [])) (hN : l.length + 4 ≤ N) :
    run tab prim glob N 117 [.ro (l.map Pl.cells), .func g [.rptr cs]] = some (.int .i64 (idxFrom f 0 l), []) := by
  obtain ⟨n, rfl⟩ : ∃ n, N = n + 1 := ⟨N - 1, by omega⟩
  rw [enters (fn := c117) rfl]
  have hL := fun env H h => loop117 (n := n) l hl g cs f hg l [] n env H rfl (by omega) h
  simp only [c117, o117_1, o117_2, o117_3, go_sem, Nat.reduceAdd, Nat.reduceMul, reduceIte, Nat.reduceLeDiff, Int.reduceLE, Int.reduceLT, Int.reduceToNat, List.length_map]
  generalize iter n (evCode ⟨run tab prim glob n, glob⟩ (iter n) b117_1) = gg at hL ⊢
  generalize hE : gg _ _ = o
  obtain ⟨ex, env', H', rfl, h5⟩ := Ends.at hL hE (by rfl)
  rw [show ([] : List Pl).length = 0 from rfl] at h5
  split at h5
  · rename_i h6
    subst h5
    rw [h6]
    simp only [go_sem, Nat.reduceAdd, Nat.reduceMul, reduceIte, Nat.reduceLeDiff, Int.reduceLE, Int.reduceLT, Int.reduceToNat]
  · obtain ⟨rfl, h6⟩ := h5
    simp only [go_sem, Nat.reduceAdd, Nat.reduceMul, reduceIte, Nat.reduceLeDiff, Int.reduceLE, Int.reduceLT, Int.reduceToNat, h6]
theorem same81_ok {N : Nat} (hN : 1 ≤ N) (p q : Pl) : run tab prim glob N 81 [.agg p.cells, .rptr q.cells] = some (.bool (decide (p.shard = q.shard)), []) := by
  obtain ⟨n, rfl⟩ : ∃ n, N = n + 1 := ⟨N - 1, by omega⟩
  rw [enters (fn := c81) rfl]
  simp only [c81, o81_1, o81_2, Pl.cells, go_sem, Nat.reduceAdd, Nat.reduceMul, reduceIte, Nat.reduceLeDiff, Int.reduceLE, Int.reduceLT, Int.reduceToNat]
theorem contains80_ok {N : Nat} (l : List Pl) (hl : l.length ≤ 1000000000) (q : Pl) (hN : l.length + 6 ≤ N) :
    run tab prim glob N 80 [.ro (l.map Pl.cells), .func 81 [.rptr q.cells]] = some (.bool (l.any fun p => decide (p.shard = q.shard)), []) := by
  obtain ⟨n, rfl⟩ : ∃ n, N = n + 1 := ⟨N - 1, by omega⟩
  rw [enters (fn := c80) rfl]
  have h1 := index_ok (N := n) l hl 81 q.cells (fun p => decide (p.shard = q.shard)) (fun p _ => same81_ok (by omega) p q) (by omega)
  rw [← idx_any _ l 0]
  simp only [c80, o80_1, o80_2, go_sem, Nat.reduceAdd, Nat.reduceMul, reduceIte, Nat.reduceLeDiff, Int.reduceLE, Int.reduceLT, Int.reduceToNat, h1]
def Pl.good (p : Pl) : Bool := rng 1 1099511627776 p.shard && rng 1 1099511627776 p.epoch && rng 1 3 p.cell
def placesFrom (pre : List Pl) : List Pl → Bool
  | [] => true
  | p :: r => p.good && !(pre.any fun q => decide (q.shard = p.shard)) && placesFrom (pre ++ [p]) r
def placesRight (l : List Pl) : Bool := decide ((l.length : Int) ≤ 8) && placesFrom [] l && whole (l.map Pl.span)
def PlaceEnds (l : List Pl) (v : Bool) : Ex → Env → Heap → Prop := fun ex e h =>
  if v then ex = .exit 0 ∧ getT e 3 = .own 300003 0 l.length l.length ∧ hget h 300003 = some (.arr 2 (l.map fun p => [.str p.lo, .str p.hi])) else ex = .ret ∧ getT e 2 = .bool false
theorem loop29 {n : Nat} (l : List Pl) (hl : l.length ≤ 1000000000) (hN : l.length + 20 ≤ n) : ∀ (rest pre : List Pl) (m : Nat) (env : Env) (H : Heap), l = pre ++ rest → rest.length + 1 ≤ m →
    evGh (.keep [0, 3, 9, 10, 11] [300003]) env H = some ([(0, .ro (l.map Pl.cells)), (3, .own 300003 0 pre.length pre.length), (9, .ro (l.map Pl.cells)), (10, .int .i64 l.length), (11, .int .i64 pre.length)], [(300003, .arr 2 (pre.map fun p => [.str p.lo, .str p.hi]))]) →
    Ends (iter m (evCode ⟨run tab prim glob n, glob⟩ (iter n) b29_1) env H) (PlaceEnds l (placesFrom pre rest))
  | [], pre, m + 1, env, H, hp, hm, hk => by
    have e0 : pre = l := by rw [hp]; simp
    subst e0
    rw [iter_step]
    generalize iter m (evCode ⟨run tab prim glob n, glob⟩ (iter n) b29_1) = g
    simp only [b29_1, ob29_1_1, ob29_1_2, ob29_1_3, ob29_1_4, ob29_1_5, ob29_1_6, ob29_1_7, ob29_1_8, hk, go_sem, Nat.reduceAdd, Nat.reduceMul, reduceIte, Nat.reduceLeDiff, Int.reduceLE, Int.reduceLT, Int.reduceToNat, Int.lt_irrefl, afterIt, placesFrom]
    exact Ends.of ⟨rfl, rfl, rfl⟩
  | x :: rest, pre, m + 1, env, H, hp, hm, hk => by
    have e0 : pre.length < l.length := by rw [hp]; simp
    have e1 : (pre.length : Int) < (l.length : Int) := by omega
    have e2 : (0 : Int) ≤ (pre.length : Int) := by omega
    have e3 : (l.map Pl.cells)[pre.length]? = some [.str x.lo, .str x.hi, .int .i64 x.shard, .int .i64 x.cell, .int .i64 x.epoch] := by rw [hp]; simp [Pl.cells]
    have e4 : IntKind.i64.wrap ((pre.length : Int) + 1) = ((pre.length + 1 : Nat) : Int) := cast_add (by omega)
    have e5 : (pre.length : Int) ≤ (l.length : Int) := by omega
    have e6 : (l.map Pl.cells).take pre.length = pre.map Pl.cells := by rw [hp]; simp [List.take_append_of_le_length]
    have e7 : ¬ (pre.length + 1 ≤ pre.length) := by omega
    have e8 : (pre.length + 1) * 32 ≤ 140737488355328 := by omega
    have e9 : (pre.map fun p : Pl => [PV.str p.lo, PV.str p.hi]) ++ [[PV.str x.lo, PV.str x.hi]] = (pre ++ [x]).map fun p => [PV.str p.lo, PV.str p.hi] := by simp
    have e10 : pre.length + 1 = (pre ++ [x]).length := by simp
    have r1 := number_ok (N := n) (by omega) x.shard
    have r2 := number_ok (N := n) (by omega) x.epoch
    have r3 := cell_ok (N := n) (by omega) x.cell
    have r4 := contains80_ok (N := n) pre (by omega) x (by omega)
    simp only [Pl.cells] at r4
    have ih := loop29 (n := n) l hl hN rest (pre ++ [x]) m
    rw [iter_step]
    generalize iter m (evCode ⟨run tab prim glob n, glob⟩ (iter n) b29_1) = gg at ih ⊢
    cases k1 : rng 1 1099511627776 x.shard
    · rw [k1] at r1
      simp only [b29_1, ob29_1_1, ob29_1_2, ob29_1_3, ob29_1_4, ob29_1_5, ob29_1_6, ob29_1_7, ob29_1_8, hk, go_sem, Nat.reduceAdd, Nat.reduceMul, reduceIte, Nat.reduceLeDiff, Int.reduceLE, Int.reduceLT, Int.reduceToNat, e1, e2, e3, e4, r1, afterIt, placesFrom, Pl.good, k1]
      exact Ends.of ⟨rfl, rfl⟩
    rw [k1] at r1
    cases k2 : rng 1 1099511627776 x.epoch
    · rw [k2] at r2
      simp only [b29_1, ob29_1_1, ob29_1_2, ob29_1_3, ob29_1_4, ob29_1_5, ob29_1_6, ob29_1_7, ob29_1_8, hk, go_sem, Nat.reduceAdd, Nat.reduceMul, reduceIte, Nat.reduceLeDiff, Int.reduceLE, Int.reduceLT, Int.reduceToNat, e1, e2, e3, e4, r1, r2, afterIt, placesFrom, Pl.good, k1, k2]
      exact Ends.of ⟨rfl, rfl⟩
    rw [k2] at r2
    cases k3 : rng 1 3 x.cell
    · rw [k3] at r3
      simp only [b29_1, ob29_1_1, ob29_1_2, ob29_1_3, ob29_1_4, ob29_1_5, ob29_1_6, ob29_1_7, ob29_1_8, hk, go_sem, Nat.reduceAdd, Nat.reduceMul, reduceIte, Nat.reduceLeDiff, Int.reduceLE, Int.reduceLT, Int.reduceToNat, e1, e2, e3, e4, r1, r2, r3, afterIt, placesFrom, Pl.good, k1, k2, k3]
      exact Ends.of ⟨rfl, rfl⟩
    rw [k3] at r3
    cases k4 : pre.any fun q => decide (q.shard = x.shard)
    · rw [k4] at r4
      simp only [b29_1, ob29_1_1, ob29_1_2, ob29_1_3, ob29_1_4, ob29_1_5, ob29_1_6, ob29_1_7, ob29_1_8, hk, go_sem, Nat.reduceAdd, Nat.reduceMul, reduceIte, Nat.reduceLeDiff, Int.reduceLE, Int.reduceLT, Int.reduceToNat, e1, e2, e3, e4, e5, e6, e7, e8, r1, r2, r3, r4, List.length_map, Nat.beq_refl, afterIt, placesFrom, Pl.good, Pl.cells, k1, k2, k3, k4]
      refine ih _ _ (by rw [hp]; simp) (by simp at hm; omega) ?_
      rw [← e10, ← e9]
      rfl
    · rw [k4] at r4
      simp only [b29_1, ob29_1_1, ob29_1_2, ob29_1_3, ob29_1_4, ob29_1_5, ob29_1_6, ob29_1_7, ob29_1_8, hk, go_sem, Nat.reduceAdd, Nat.reduceMul, reduceIte, Nat.reduceLeDiff, Int.reduceLE, Int.reduceLT, Int.reduceToNat, e1, e2, e3, e4, e5, e6, r1, r2, r3, r4, List.length_map, afterIt, placesFrom, Pl.good, Pl.cells, k1, k2, k3, k4]
      exact Ends.of ⟨rfl, rfl⟩
theorem places_ok {N B : Nat} (l : List Pl) (hB : B ≤ 1000000000) (hl : l.length ≤ B) (hs : ∀ p ∈ l, p.small B) (hN : 10 * B + 60 ≤ N) : run tab prim glob N 29 [.ro (l.map Pl.cells)] = some (.bool (placesRight l), []) := by
  obtain ⟨n, rfl⟩ : ∃ n, N = n + 1 := ⟨N - 1, by omega⟩
  rw [enters (fn := c29) rfl]
  have e0 : ((8 : Int) < (l.length : Int)) = ¬ ((l.length : Int) ≤ 8) := by simp
  by_cases h8 : (l.length : Int) ≤ 8
  · have hL := fun env H h => loop29 (n := n) l (by omega) (by omega) l [] n env H rfl (by omega) h
    have hw := whole_ok (N := n) (l.map Pl.span) hB (by simpa using hl) (fun s hs' => by
      obtain ⟨p, hp, rfl⟩ := List.mem_map.1 hs'
      exact hs p hp) (by omega)
    rw [List.map_map] at hw
    have ew : (Sp.cells ∘ Pl.span) = fun p : Pl => [PV.str p.lo, PV.str p.hi] := rfl
    rw [ew] at hw
    simp only [c29, o29_1, o29_2, o29_3, o29_4, o29_5, o29_6, go_sem, Nat.reduceAdd, Nat.reduceMul, reduceIte, Nat.reduceLeDiff, Int.reduceLE, Int.reduceLT, Int.reduceToNat, List.length_map, e0, h8, not_true, evGh]
    generalize iter n (evCode ⟨run tab prim glob n, glob⟩ (iter n) b29_1) = gg at hL ⊢
    generalize hE : gg _ _ = o
    obtain ⟨ex, env', H', rfl, h5⟩ := Ends.at hL hE (by rfl)
    unfold PlaceEnds at h5
    cases hb : placesFrom [] l
    · rw [hb] at h5
      obtain ⟨rfl, h6⟩ := h5
      simp only [go_sem, Nat.reduceAdd, Nat.reduceMul, reduceIte, Nat.reduceLeDiff, Int.reduceLE, Int.reduceLT, Int.reduceToNat, h6, placesRight, hb]
    · rw [hb] at h5
      obtain ⟨rfl, h6, h7⟩ := h5
      have e1 : List.take l.length (l.map fun p : Pl => [PV.str p.lo, PV.str p.hi]) = l.map fun p : Pl => [PV.str p.lo, PV.str p.hi] := List.take_of_length_le (by simp)
      simp only [go_sem, Nat.reduceAdd, Nat.reduceMul, reduceIte, Nat.reduceLeDiff, Int.reduceLE, Int.reduceLT, Int.reduceToNat, h6, h7, List.length_map, Nat.beq_refl, e1, hw, placesRight, hb, h8]
  · simp only [c29, o29_1, o29_2, o29_3, o29_4, o29_5, o29_6, go_sem, Nat.reduceAdd, Nat.reduceMul, reduceIte, Nat.reduceLeDiff, Int.reduceLE, Int.reduceLT, Int.reduceToNat, List.length_map, e0, h8, not_false_iff, placesRight]
end Go.Proofs.YtefoleocbhkobaaGreatDoor
namespace Go.Proofs.YtefoleocbhkobaaGreatDoor
open Go Go.Ev
set_option linter.unusedSectionVars false
set_option linter.unusedSimpArgs false
set_option linter.unusedVariables false
def spanRows (l : List Pl) : List (List PV) := l.map fun p => [.str p.lo, .str p.hi]
def InnerEnds (l : List Pl) (k : Nat) (v : Bool) : Ex → Env → Heap → Prop := fun ex e h =>
  if v then ex = .ret ∧ getT e 2 = .bool false else ex = .exit 2 ∧ getT e 0 = .ro (l.map Pl.cells) ∧ getT e 3 = .own 300003 0 (k + 1) (k + 1) ∧ getT e 4 = .int .i64 k ∧ hget h 300003 = some (.arr 2 (spanRows (l.take (k + 1))))
theorem loop35a {n : Nat} (l : List Pl) (hl : l.length ≤ 1000000000) (k : Nat) (p : Pl) (hk0 : l[k]? = some p) (B1 : List (List PV)) : ∀ (rest pre : List Pl) (m : Nat) (env : Env) (H : Heap), l = pre ++ rest → rest.length + 1 ≤ m →
    evGh (.keep [0, 3, 4, 5] [100021, 100022, 300003]) env H = some ([(0, .ro (l.map Pl.cells)), (3, .own 300003 0 (k + 1) (k + 1)), (4, .int .i64 k), (5, .int .i64 pre.length)], [(100021, .arr 2 B1), (300003, .arr 2 (spanRows (l.take (k + 1))))]) →
    Ends (iter m (evCode ⟨run tab prim glob n, glob⟩ (iter n) b35_1) env H) (InnerEnds l k (rest.any fun q => decide (q.shard = p.shard)))
  | [], pre, m + 1, env, H, hp, hm, hk => by
    have e0 : pre = l := by rw [hp]; simp
    subst e0
    rw [iter_step]
    generalize iter m (evCode ⟨run tab prim glob n, glob⟩ (iter n) b35_1) = g
    simp only [b35_1, ob35_1_1, ob35_1_2, ob35_1_3, ob35_1_4, hk, go_sem, Nat.reduceAdd, Nat.reduceMul, reduceIte, Nat.reduceLeDiff, Int.reduceLE, Int.reduceLT, Int.reduceToNat, List.length_map, Int.lt_irrefl, afterIt, List.any_nil]
    exact Ends.of ⟨rfl, rfl, rfl, rfl, rfl⟩
  | x :: rest, pre, m + 1, env, H, hp, hm, hk => by
    have e0 : pre.length < l.length := by rw [hp]; simp
    have e1 : (pre.length : Int) < (l.length : Int) := by omega
    have e2 : (0 : Int) ≤ (pre.length : Int) := by omega
    have e2' : (0 : Int) ≤ (k : Int) := by omega
    have e3 : (l.map Pl.cells)[pre.length]? = some [.str x.lo, .str x.hi, .int .i64 x.shard, .int .i64 x.cell, .int .i64 x.epoch] := by rw [hp]; simp [Pl.cells]
    have e3' : (l.map Pl.cells)[k]? = some [.str p.lo, .str p.hi, .int .i64 p.shard, .int .i64 p.cell, .int .i64 p.epoch] := by rw [List.getElem?_map, hk0]; rfl
    have e4 : IntKind.i64.wrap ((pre.length : Int) + 1) = ((pre.length + 1 : Nat) : Int) := cast_add (by omega)
    have ih := loop35a (n := n) l hl k p hk0 B1 rest (pre ++ [x]) m
    rw [iter_step]
    generalize iter m (evCode ⟨run tab prim glob n, glob⟩ (iter n) b35_1) = gg at ih ⊢
    by_cases k1 : x.shard = p.shard
    · have k2 := eq_true k1
      simp only [b35_1, ob35_1_1, ob35_1_2, ob35_1_3, ob35_1_4, hk, go_sem, Nat.reduceAdd, Nat.reduceMul, reduceIte, Nat.reduceLeDiff, Int.reduceLE, Int.reduceLT, Int.reduceToNat, List.length_map, e1, e2, e2', e3, e3', e4, afterIt, List.any_cons, k2]
      exact Ends.of ⟨rfl, rfl⟩
    · simp only [b35_1, ob35_1_1, ob35_1_2, ob35_1_3, ob35_1_4, hk, go_sem, Nat.reduceAdd, Nat.reduceMul, reduceIte, Nat.reduceLeDiff, Int.reduceLE, Int.reduceLT, Int.reduceToNat, List.length_map, e1, e2, e2', e3, e3', e4, afterIt, List.any_cons, k1]
      refine ih _ _ (by rw [hp]; simp) (by simp at hm; omega) ?_
      rw [List.length_append]; rfl
def places15 : List Pl → Bool
  | [] => true
  | p :: r => p.good && !(r.any fun q => decide (q.shard = p.shard)) && places15 r
theorem loop35b {n : Nat} (l : List Pl) (hl : l.length ≤ 1000000000) (hN : l.length + 20 ≤ n) : ∀ (rest pre : List Pl) (m : Nat) (env : Env) (H : Heap), l = pre ++ rest → rest.length + 1 ≤ m →
    evGh (.keep [0, 3, 4] [300003]) env H = some ([(0, .ro (l.map Pl.cells)), (3, .own 300003 0 pre.length pre.length), (4, .int .i64 pre.length)], [(300003, .arr 2 (spanRows (l.take pre.length)))]) →
    Ends (iter m (evCode ⟨run tab prim glob n, glob⟩ (iter n) b35_2) env H) (PlaceEnds l (places15 rest))
  | [], pre, m + 1, env, H, hp, hm, hk => by
    have e0 : pre = l := by rw [hp]; simp
    subst e0
    rw [iter_step]
    generalize iter m (evCode ⟨run tab prim glob n, glob⟩ (iter n) b35_2) = g
    simp only [b35_2, ob35_2_1, ob35_2_2, ob35_2_3, ob35_2_4, ob35_2_5, ob35_2_6, hk, go_sem, Nat.reduceAdd, Nat.reduceMul, reduceIte, Nat.reduceLeDiff, Int.reduceLE, Int.reduceLT, Int.reduceToNat, List.length_map, Int.lt_irrefl, afterIt, places15]
    rw [List.take_length]
    exact Ends.of ⟨rfl, rfl, rfl⟩
  | x :: rest, pre, m + 1, env, H, hp, hm, hk => by
    have e0 : pre.length < l.length := by rw [hp]; simp
    have e1 : (pre.length : Int) < (l.length : Int) := by omega
    have e2 : (0 : Int) ≤ (pre.length : Int) := by omega
    have e30 : l[pre.length]? = some x := by rw [hp]; simp
    have e3 : (l.map Pl.cells)[pre.length]? = some [.str x.lo, .str x.hi, .int .i64 x.shard, .int .i64 x.cell, .int .i64 x.epoch] := by rw [hp]; simp [Pl.cells]
    have e4 : IntKind.i64.wrap ((pre.length : Int) + 1) = ((pre.length + 1 : Nat) : Int) := cast_add (by omega)
    have et : l.take pre.length = pre := by rw [hp]; simp [List.take_append_of_le_length]
    have et2 : l.take (pre.length + 1) = pre ++ [x] := by rw [List.take_add_one, et, e30]; rfl
    have e7 : ¬ (pre.length + 1 ≤ pre.length) := by omega
    have e8 : (pre.length + 1) * 32 ≤ 140737488355328 := by omega
    have e9 : spanRows pre ++ [[PV.str x.lo, PV.str x.hi]] = spanRows (l.take (pre.length + 1)) := by rw [et2]; simp [spanRows]
    have e10 : pre.length + 1 = (pre ++ [x]).length := by simp
    have e11 : (spanRows pre).length = pre.length := by simp [spanRows]
    have r1 := number15_ok (N := n) (by omega) x.shard
    have r2 := number15_ok (N := n) (by omega) x.epoch
    have hrl : rest.length + 1 ≤ n := by
      have : l.length = pre.length + (rest.length + 1) := by rw [hp]; simp
      omega
    have hin := fun env H h => loop35a (n := n) l hl pre.length x e30 [[PV.str x.lo, PV.str x.hi]] rest (pre ++ [x]) n env H (by rw [hp]; simp) hrl h
    have ih := loop35b (n := n) l hl hN rest (pre ++ [x]) m
    rw [et] at hk
    rw [iter_step]
    generalize iter m (evCode ⟨run tab prim glob n, glob⟩ (iter n) b35_2) = gg at ih ⊢
    have hcell : rng 1 3 x.cell = (decide (1 ≤ x.cell) && decide (x.cell ≤ 3)) := rfl
    cases k1 : rng 1 1099511627776 x.shard
    · rw [k1] at r1
      simp only [b35_2, ob35_2_1, ob35_2_2, ob35_2_3, ob35_2_4, ob35_2_5, ob35_2_6, hk, go_sem, Nat.reduceAdd, Nat.reduceMul, reduceIte, Nat.reduceLeDiff, Int.reduceLE, Int.reduceLT, Int.reduceToNat, e1, e2, e3, e4, e7, e8, e11, List.length_map, Nat.beq_refl, r1, afterIt, places15, Pl.good, k1]
      exact Ends.of ⟨rfl, rfl⟩
    rw [k1] at r1
    cases k2 : rng 1 1099511627776 x.epoch
    · rw [k2] at r2
      simp only [b35_2, ob35_2_1, ob35_2_2, ob35_2_3, ob35_2_4, ob35_2_5, ob35_2_6, hk, go_sem, Nat.reduceAdd, Nat.reduceMul, reduceIte, Nat.reduceLeDiff, Int.reduceLE, Int.reduceLT, Int.reduceToNat, e1, e2, e3, e4, e7, e8, e11, List.length_map, Nat.beq_refl, r1, r2, afterIt, places15, Pl.good, k1, k2]
      exact Ends.of ⟨rfl, rfl⟩
    rw [k2] at r2
    by_cases k3 : 1 ≤ x.cell
    · have k3' : ¬ x.cell < 1 := by omega
      by_cases k4 : x.cell ≤ 3
      · have k4' : ¬ 3 < x.cell := by omega
        generalize hg1 : iter n (evCode ⟨run tab prim glob n, glob⟩ (iter n) b35_1) = g1 at hin
        simp only [b35_2, ob35_2_1, ob35_2_2, ob35_2_3, ob35_2_4, ob35_2_5, ob35_2_6, hk, go_sem, Nat.reduceAdd, Nat.reduceMul, reduceIte, Nat.reduceLeDiff, Int.reduceLE, Int.reduceLT, Int.reduceToNat, e1, e2, e3, e4, e7, e8, e11, List.length_map, Nat.beq_refl, r1, r2, afterIt, places15, Pl.good, k1, k2, k3, k3', k4, k4', hcell, e9, hg1]
        generalize hE : g1 _ _ = o
        obtain ⟨ex, env', H', rfl, h5⟩ := Ends.at hin hE (by rw [List.length_append]; rfl)
        unfold InnerEnds at h5
        cases k5 : rest.any fun q => decide (q.shard = x.shard)
        · rw [k5] at h5
          obtain ⟨rfl, h6, h7, h8, h9⟩ := h5
          simp only [go_sem, Nat.reduceAdd, Nat.reduceMul, reduceIte, Nat.reduceLeDiff, Int.reduceLE, Int.reduceLT, Int.reduceToNat, h6, h7, h8, h9, e4, k5]
          refine ih _ _ (by rw [hp]; simp) (by simp at hm; omega) ?_
          simp only [go_sem, Nat.reduceAdd, Nat.reduceMul, reduceIte, Nat.reduceLeDiff, Int.reduceLE, Int.reduceLT, Int.reduceToNat, mentL, ment, ment1, evGh, keepE, keepH, h6, h7, h8, h9]
          rw [← e10]
        · rw [k5] at h5
          obtain ⟨rfl, h6⟩ := h5
          simp only [go_sem, Nat.reduceAdd, Nat.reduceMul, reduceIte, Nat.reduceLeDiff, Int.reduceLE, Int.reduceLT, Int.reduceToNat, h6, k5]
          exact Ends.of ⟨rfl, h6⟩
      · have k4' : 3 < x.cell := by omega
        simp only [b35_2, ob35_2_1, ob35_2_2, ob35_2_3, ob35_2_4, ob35_2_5, ob35_2_6, hk, go_sem, Nat.reduceAdd, Nat.reduceMul, reduceIte, Nat.reduceLeDiff, Int.reduceLE, Int.reduceLT, Int.reduceToNat, e1, e2, e3, e4, e7, e8, e11, List.length_map, Nat.beq_refl, r1, r2, afterIt, places15, Pl.good, k1, k2, k3, k3', k4, k4', hcell]
        exact Ends.of ⟨rfl, rfl⟩
    · have k3' : x.cell < 1 := by omega
      simp only [b35_2, ob35_2_1, ob35_2_2, ob35_2_3, ob35_2_4, ob35_2_5, ob35_2_6, hk, go_sem, Nat.reduceAdd, Nat.reduceMul, reduceIte, Nat.reduceLeDiff, Int.reduceLE, Int.reduceLT, Int.reduceToNat, e1, e2, e3, e4, e7, e8, e11, List.length_map, Nat.beq_refl, r1, r2, afterIt, places15, Pl.good, k1, k2, k3, k3', hcell]
      exact Ends.of ⟨rfl, rfl⟩
theorem places_same : ∀ (r pre : List Pl), placesFrom pre r = (places15 r && !(r.any fun p => pre.any fun q => decide (q.shard = p.shard)))
  | [], pre => rfl
  | p :: r, pre => by
    simp only [placesFrom, places15, List.any_cons]
    rw [places_same r (pre ++ [p])]
    have e : (r.any fun p_1 => (pre ++ [p]).any fun q => decide (q.shard = p_1.shard)) = ((r.any fun p_1 => pre.any fun q => decide (q.shard = p_1.shard)) || (r.any fun q => decide (q.shard = p.shard))) := by
      rw [Bool.eq_iff_iff]
      simp only [List.any_eq_true, Bool.or_eq_true, decide_eq_true_eq, List.mem_append, List.mem_singleton]
      constructor
      · rintro ⟨a, ha, q, hq | rfl, h⟩
        · exact .inl ⟨a, ha, q, hq, h⟩
        · exact .inr ⟨a, ha, h.symm⟩
      · rintro (⟨a, ha, q, hq, h⟩ | ⟨a, ha, h⟩)
        · exact ⟨a, ha, q, .inl hq, h⟩
        · exact ⟨a, ha, p, .inr rfl, h.symm⟩
    rw [e]
    cases p.good <;> cases (pre.any fun q => decide (q.shard = p.shard)) <;> cases (r.any fun q => decide (q.shard = p.shard)) <;> cases places15 r <;> simp
theorem places15_ok {N B : Nat} (l : List Pl) (hB : B ≤ 1000000000) (hl : l.length ≤ B) (hs : ∀ p ∈ l, p.small B) (hN : 10 * B + 60 ≤ N) : run tab prim glob N 35 [.ro (l.map Pl.cells)] = some (.bool (placesRight l), []) := by
  obtain ⟨n, rfl⟩ : ∃ n, N = n + 1 := ⟨N - 1, by omega⟩
  rw [enters (fn := c35) rfl]
  have e0 : ((8 : Int) < (l.length : Int)) = ¬ ((l.length : Int) ≤ 8) := by simp
  by_cases h8 : (l.length : Int) ≤ 8
  · have hL := fun env H h => loop35b (n := n) l (by omega) (by omega) l [] n env H rfl (by omega) h
    have hw := whole09_ok (N := n) (l.map Pl.span) hB (by simpa using hl) (fun s hs' => by
      obtain ⟨p, hp, rfl⟩ := List.mem_map.1 hs'
      exact hs p hp) (by omega)
    rw [List.map_map] at hw
    have ew : (Sp.cells ∘ Pl.span) = fun p : Pl => [PV.str p.lo, PV.str p.hi] := rfl
    rw [ew, whole_same] at hw
    simp only [c35, o35_1, o35_2, o35_3, o35_4, o35_5, o35_6, go_sem, Nat.reduceAdd, Nat.reduceMul, reduceIte, Nat.reduceLeDiff, Int.reduceLE, Int.reduceLT, Int.reduceToNat, List.length_map, e0, h8, not_true, evGh]
    generalize iter n (evCode ⟨run tab prim glob n, glob⟩ (iter n) b35_2) = gg at hL ⊢
    generalize hE : gg _ _ = o
    obtain ⟨ex, env', H', rfl, h5⟩ := Ends.at hL hE (by rfl)
    unfold PlaceEnds at h5
    have hsame : placesFrom [] l = places15 l := by rw [places_same]; simp
    cases hb : places15 l
    · rw [hb] at h5
      obtain ⟨rfl, h6⟩ := h5
      simp only [go_sem, Nat.reduceAdd, Nat.reduceMul, reduceIte, Nat.reduceLeDiff, Int.reduceLE, Int.reduceLT, Int.reduceToNat, h6, placesRight, hsame, hb]
    · rw [hb] at h5
      obtain ⟨rfl, h6, h7⟩ := h5
      have e1 : List.take l.length (l.map fun p : Pl => [PV.str p.lo, PV.str p.hi]) = l.map fun p : Pl => [PV.str p.lo, PV.str p.hi] := List.take_of_length_le (by simp)
      simp only [go_sem, Nat.reduceAdd, Nat.reduceMul, reduceIte, Nat.reduceLeDiff, Int.reduceLE, Int.reduceLT, Int.reduceToNat, h6, h7, List.length_map, Nat.beq_refl, e1, hw, placesRight, hsame, hb, h8]
  · simp only [c35, o35_1, o35_2, o35_3, o35_4, o35_5, o35_6, go_sem, Nat.reduceAdd, Nat.reduceMul, reduceIte, Nat.reduceLeDiff, Int.reduceLE, Int.reduceLT, Int.reduceToNat, List.length_map, e0, h8, not_false_iff, placesRight]
end Go.Proofs.YtefoleocbhkobaaGreatDoor
namespace Go.Proofs.YtefoleocbhkobaaGreatDoor
open Go Go.Ev
set_option linter.unusedSectionVars false
set_option linter.unusedSimpArgs false
set_option linter.unusedVariables false
def rowI (x : Int) : List PV := [.int .i64 x]
def idxI (f : Int → Bool) (i : Nat) : List Int → Int
  | [] => -1
  | p :: r => if f p then (i : Int) else idxI f (i + 1) r
theorem idxI_any (f : Int → Bool) : ∀ (l : List Int) (i : Nat), decide (0 ≤ idxI f i l) = l.any f
  | [], i => by simp [idxI]
  | p :: r, i => by
    simp only [idxI, List.any_cons]
    by_cases h : f p = true
    · simp [h]
    · have := idxI_any f r (i + 1)
      simp [h] at this ⊢
      exact this
def IdxEnds (v : Int) : Ex → Env → Heap → Prop := fun ex e _ => if v = -1 then ex = .exit 0 else ex = .ret ∧ getT e 4 = .int .i64 v
theorem loop115 {n : Nat} (l : List Int) (hl : l.length ≤ 1000000000) (g : Nat) (cs : List PV) (f : Int → Bool) (hg : ∀ p ∈ l, run tab prim glob n g [.int .i64 p, .rptr cs] = some (.bool (f p), [])) : ∀ (rest pre : List Int) (m : Nat) (env : Env) (H : Heap), l = pre ++ rest → rest.length + 1 ≤ m →
    evGh (.keep [0, 1, 7, 8] []) env H = some ([(0, .ro (l.map rowI)), (1, .func g [.rptr cs]), (7, .int .i64 l.length), (8, .int .i64 pre.length)], []) →
    Ends (iter m (evCode ⟨run tab prim glob n, glob⟩ (iter n) b115_1) env H) (IdxEnds (idxI f pre.length rest))
  | [], pre, m + 1, env, H, hp, hm, hk => by
    have e1 : pre.length = l.length := by rw [hp]; simp
    rw [iter_step]
    generalize iter m (evCode ⟨run tab prim glob n, glob⟩ (iter n) b115_1) = g
    simp only [b115_1, ob115_1_1, ob115_1_2, ob115_1_3, ob115_1_4, ob115_1_5, hk, go_sem, Nat.reduceAdd, Nat.reduceMul, reduceIte, Nat.reduceLeDiff, Int.reduceLE, Int.reduceLT, Int.reduceToNat, e1, Int.lt_irrefl, afterIt, idxI]
    exact Ends.of rfl
  | x :: rest, pre, m + 1, env, H, hp, hm, hk => by
    have e0 : pre.length < l.length := by rw [hp]; simp
    have e1 : (pre.length : Int) < (l.length : Int) := by omega
    have e2 : (0 : Int) ≤ (pre.length : Int) := by omega
    have e3 : (l.map rowI)[pre.length]? = some [.int .i64 x] := by rw [hp]; simp [rowI]
    have e4 : IntKind.i64.wrap ((pre.length : Int) + 1) = ((pre.length + 1 : Nat) : Int) := cast_add (by omega)
    have hr := hg x (by rw [hp]; simp)
    have ih := loop115 (n := n) l hl g cs f hg rest (pre ++ [x]) m
    rw [iter_step]
    generalize iter m (evCode ⟨run tab prim glob n, glob⟩ (iter n) b115_1) = gg at ih ⊢
    cases k1 : f x
    · rw [k1] at hr
      simp only [b115_1, ob115_1_1, ob115_1_2, ob115_1_3, ob115_1_4, ob115_1_5, hk, go_sem, Nat.reduceAdd, Nat.reduceMul, reduceIte, Nat.reduceLeDiff, Int.reduceLE, Int.reduceLT, Int.reduceToNat, e1, e2, e3, e4, hr, afterIt, idxI, k1]
      rw [show pre.length + 1 = (pre ++ [x]).length by simp]
      simp only [Bool.false_eq_true, if_false]
      refine ih _ _ (by rw [hp]; simp) (by simp at hm; omega) ?_
      rfl
    · rw [k1] at hr
      simp only [b115_1, ob115_1_1, ob115_1_2, ob115_1_3, ob115_1_4, ob115_1_5, hk, go_sem, Nat.reduceAdd, Nat.reduceMul, reduceIte, Nat.reduceLeDiff, Int.reduceLE, Int.reduceLT, Int.reduceToNat, e1, e2, e3, e4, hr, afterIt, idxI, k1]
      refine Ends.of ?_
      unfold IdxEnds
      rw [if_neg (by omega)]
      exact ⟨rfl, rfl⟩
theorem indexI_ok {N : Nat} (l : List Int) (hl : l.length ≤ 1000000000) (g : Nat) (cs : List PV) (f : Int → Bool) (hg : ∀ p ∈ l, run tab prim glob (N - 1) g [.int .i64 p, .rptr cs] = some (.bool (f p), [])) (hN : l.length + 4 ≤ N) :
    run tab prim glob N 115 [.ro (l.map rowI), .func g [.rptr cs]] = some (.int .i64 (idxI f 0 l), []) := by
  obtain ⟨n, rfl⟩ : ∃ n, N = n + 1 := ⟨N - 1, by omega⟩
  rw [enters (fn := c115) rfl]
  have hL := fun env H h => loop115 (n := n) l hl g cs f hg l [] n env H rfl (by omega) h
  simp only [c115, o115_1, o115_2, o115_3, go_sem, Nat.reduceAdd, Nat.reduceMul, reduceIte, Nat.reduceLeDiff, Int.reduceLE, Int.reduceLT, Int.reduceToNat, List.length_map]
  generalize iter n (evCode ⟨run tab prim glob n, glob⟩ (iter n) b115_1) = gg at hL ⊢
  generalize hE : gg _ _ = o
  obtain ⟨ex, env', H', rfl, h5⟩ := Ends.at hL hE (by rfl)
  rw [show ([] : List Int).length = 0 from rfl] at h5
  unfold IdxEnds at h5
  split at h5
  · rename_i h6
    subst h5
    rw [h6]
    simp only [go_sem, Nat.reduceAdd, Nat.reduceMul, reduceIte, Nat.reduceLeDiff, Int.reduceLE, Int.reduceLT, Int.reduceToNat]
  · obtain ⟨rfl, h6⟩ := h5
    simp only [go_sem, Nat.reduceAdd, Nat.reduceMul, reduceIte, Nat.reduceLeDiff, Int.reduceLE, Int.reduceLT, Int.reduceToNat, h6]
theorem out84_ok {N : Nat} (hN : 1 ≤ N) (x least : Int) : run tab prim glob N 84 [.int .i64 x, .rptr [.int .i64 least]] = some (.bool (decide (x < least) || decide (1099511627776 < x)), []) := by
  obtain ⟨n, rfl⟩ : ∃ n, N = n + 1 := ⟨N - 1, by omega⟩
  rw [enters (fn := c84) rfl]
  by_cases h1_ : x < least
  · simp only [go_sem, Nat.reduceAdd, Nat.reduceMul, reduceIte, Nat.reduceLeDiff, Int.reduceLE, Int.reduceLT, Int.reduceToNat, c84, o84_1, o84_2, h1_, Int.not_le.2 h1_]
  · by_cases h2_ : 1099511627776 < x
    · simp only [go_sem, Nat.reduceAdd, Nat.reduceMul, reduceIte, Nat.reduceLeDiff, Int.reduceLE, Int.reduceLT, Int.reduceToNat, c84, o84_1, o84_2, h1_, Int.not_lt.1 h1_, h2_, Int.not_le.2 h2_]
    · simp only [go_sem, Nat.reduceAdd, Nat.reduceMul, reduceIte, Nat.reduceLeDiff, Int.reduceLE, Int.reduceLT, Int.reduceToNat, c84, o84_1, o84_2, h1_, Int.not_lt.1 h1_, h2_, Int.not_lt.1 h2_]
def allFrom (least : Int) (l : List Int) : Bool := l.all (rng least 1099511627776)
theorem from_ok {N : Nat} (least : Int) (l : List Int) (hl : l.length ≤ 1000000000) (hN : l.length + 8 ≤ N) : run tab prim glob N 33 [.int .i64 least, .ro (l.map rowI)] = some (.bool (allFrom least l), []) := by
  obtain ⟨n, rfl⟩ : ∃ n, N = n + 2 := ⟨N - 2, by omega⟩
  have h1 := indexI_ok (N := n) l hl 84 [.int .i64 least] (fun x => decide (x < least) || decide (1099511627776 < x)) (fun p _ => out84_ok (by omega) p least) (by omega)
  have h2 : run tab prim glob (n + 1) 71 [.ro (l.map rowI), .func 84 [.rptr [.int .i64 least]]] = some (.bool (l.any fun x => decide (x < least) || decide (1099511627776 < x)), []) := by
    rw [enters (fn := c71) rfl, ← idxI_any _ l 0]
    simp only [c71, o71_1, o71_2, go_sem, Nat.reduceAdd, Nat.reduceMul, reduceIte, Nat.reduceLeDiff, Int.reduceLE, Int.reduceLT, Int.reduceToNat, h1]
  have h3 : allFrom least l = !(l.any fun x => decide (x < least) || decide (1099511627776 < x)) := by
    unfold allFrom
    rw [List.all_eq_not_any_not]
    congr 1
    congr 1
    funext x
    unfold rng
    rw [Bool.eq_iff_iff]
    simp only [Bool.not_eq_true', Bool.and_eq_false_iff, decide_eq_false_iff_not, Bool.or_eq_true, decide_eq_true_eq]
    omega
  rw [enters (n := n + 1) (fn := c33) rfl, h3]
  simp only [c33, o33_1, o33_2, go_sem, Nat.reduceAdd, Nat.reduceMul, reduceIte, Nat.reduceLeDiff, Int.reduceLE, Int.reduceLT, Int.reduceToNat, h2]
theorem loop87 {n : Nat} (l : List Int) (hl : l.length ≤ 1000000000) (v : Int) : ∀ (rest pre : List Int) (m : Nat) (env : Env) (H : Heap), l = pre ++ rest → rest.length + 1 ≤ m →
    evGh (.keep [0, 1, 7, 8] []) env H = some ([(0, .ro (l.map rowI)), (1, .int .i64 v), (7, .int .i64 l.length), (8, .int .i64 pre.length)], []) →
    Ends (iter m (evCode ⟨run tab prim glob n, glob⟩ (iter n) b87_1) env H) (IdxEnds (idxI (fun x => decide (v = x)) pre.length rest))
  | [], pre, m + 1, env, H, hp, hm, hk => by
    have e1 : pre.length = l.length := by rw [hp]; simp
    rw [iter_step]
    generalize iter m (evCode ⟨run tab prim glob n, glob⟩ (iter n) b87_1) = g
    simp only [b87_1, ob87_1_1, ob87_1_2, ob87_1_3, ob87_1_4, ob87_1_5, hk, go_sem, Nat.reduceAdd, Nat.reduceMul, reduceIte, Nat.reduceLeDiff, Int.reduceLE, Int.reduceLT, Int.reduceToNat, e1, Int.lt_irrefl, afterIt, idxI]
    exact Ends.of rfl
  | x :: rest, pre, m + 1, env, H, hp, hm, hk => by
    have e0 : pre.length < l.length := by rw [hp]; simp
    have e1 : (pre.length : Int) < (l.length : Int) := by omega
    have e2 : (0 : Int) ≤ (pre.length : Int) := by omega
    have e3 : (l.map rowI)[pre.length]? = some [.int .i64 x] := by rw [hp]; simp [rowI]
    have e4 : IntKind.i64.wrap ((pre.length : Int) + 1) = ((pre.length + 1 : Nat) : Int) := cast_add (by omega)
    have ih := loop87 (n := n) l hl v rest (pre ++ [x]) m
    rw [iter_step]
    generalize iter m (evCode ⟨run tab prim glob n, glob⟩ (iter n) b87_1) = gg at ih ⊢
    by_cases k1 : v = x
    · have k2 := eq_true k1
      simp only [b87_1, ob87_1_1, ob87_1_2, ob87_1_3, ob87_1_4, ob87_1_5, hk, go_sem, Nat.reduceAdd, Nat.reduceMul, reduceIte, Nat.reduceLeDiff, Int.reduceLE, Int.reduceLT, Int.reduceToNat, e1, e2, e3, e4, afterIt, idxI, k2]
      refine Ends.of ?_
      unfold IdxEnds
      rw [if_neg (by omega)]
      exact ⟨rfl, rfl⟩
    · simp only [b87_1, ob87_1_1, ob87_1_2, ob87_1_3, ob87_1_4, ob87_1_5, hk, go_sem, Nat.reduceAdd, Nat.reduceMul, reduceIte, Nat.reduceLeDiff, Int.reduceLE, Int.reduceLT, Int.reduceToNat, e1, e2, e3, e4, afterIt, idxI, k1]
      rw [show pre.length + 1 = (pre ++ [x]).length by simp]
      simp only [Bool.false_eq_true, if_false]
      refine ih _ _ (by rw [hp]; simp) (by simp at hm; omega) ?_
      rfl
theorem contains_ok {N : Nat} (l : List Int) (hl : l.length ≤ 1000000000) (v : Int) (hN : l.length + 6 ≤ N) : run tab prim glob N 42 [.ro (l.map rowI), .int .i64 v] = some (.bool (l.any fun x => decide (v = x)), []) := by
  obtain ⟨n, rfl⟩ : ∃ n, N = n + 2 := ⟨N - 2, by omega⟩
  have h1 : run tab prim glob (n + 1) 87 [.ro (l.map rowI), .int .i64 v] = some (.int .i64 (idxI (fun x => decide (v = x)) 0 l), []) := by
    rw [enters (fn := c87) rfl]
    have hL := fun env H h => loop87 (n := n) l hl v l [] n env H rfl (by omega) h
    simp only [c87, o87_1, o87_2, o87_3, go_sem, Nat.reduceAdd, Nat.reduceMul, reduceIte, Nat.reduceLeDiff, Int.reduceLE, Int.reduceLT, Int.reduceToNat, List.length_map]
    generalize iter n (evCode ⟨run tab prim glob n, glob⟩ (iter n) b87_1) = gg at hL ⊢
    generalize hE : gg _ _ = o
    obtain ⟨ex, env', H', rfl, h5⟩ := Ends.at hL hE (by rfl)
    rw [show ([] : List Int).length = 0 from rfl] at h5
    unfold IdxEnds at h5
    split at h5
    · rename_i h6
      subst h5
      rw [h6]
      simp only [go_sem, Nat.reduceAdd, Nat.reduceMul, reduceIte, Nat.reduceLeDiff, Int.reduceLE, Int.reduceLT, Int.reduceToNat]
    · obtain ⟨rfl, h6⟩ := h5
      simp only [go_sem, Nat.reduceAdd, Nat.reduceMul, reduceIte, Nat.reduceLeDiff, Int.reduceLE, Int.reduceLT, Int.reduceToNat, h6]
  rw [enters (n := n + 1) (fn := c42) rfl, ← idxI_any _ l 0]
  simp only [c42, o42_1, o42_2, go_sem, Nat.reduceAdd, Nat.reduceMul, reduceIte, Nat.reduceLeDiff, Int.reduceLE, Int.reduceLT, Int.reduceToNat, h1]
def storesFrom (pre : List Int) : List Int → Bool
  | [] => true
  | m :: r => rng 1 3 m && !(pre.any fun x => decide (m = x)) && storesFrom (pre ++ [m]) r
def stores (l : List Int) : Bool := storesFrom [] l && decide (0 < (l.length : Int))
theorem loop34 {n : Nat} (l : List Int) (hl : l.length ≤ 1000000000) (hN : l.length + 10 ≤ n) : ∀ (rest pre : List Int) (m : Nat) (env : Env) (H : Heap), l = pre ++ rest → rest.length + 1 ≤ m →
    evGh (.keep [0, 5, 6, 7] []) env H = some ([(0, .ro (l.map rowI)), (5, .ro (l.map rowI)), (6, .int .i64 l.length), (7, .int .i64 pre.length)], []) →
    Ends (iter m (evCode ⟨run tab prim glob n, glob⟩ (iter n) b34_1) env H) (Tells (storesFrom pre rest) 0 (.ro (l.map rowI)) 2 (.bool false))
  | [], pre, m + 1, env, H, hp, hm, hk => by
    have e1 : pre.length = l.length := by rw [hp]; simp
    rw [iter_step]
    generalize iter m (evCode ⟨run tab prim glob n, glob⟩ (iter n) b34_1) = g
    simp only [b34_1, ob34_1_1, ob34_1_2, ob34_1_3, ob34_1_4, ob34_1_5, hk, go_sem, Nat.reduceAdd, Nat.reduceMul, reduceIte, Nat.reduceLeDiff, Int.reduceLE, Int.reduceLT, Int.reduceToNat, e1, Int.lt_irrefl, afterIt, storesFrom]
    exact Ends.of ⟨rfl, rfl⟩
  | x :: rest, pre, m + 1, env, H, hp, hm, hk => by
    have e0 : pre.length < l.length := by rw [hp]; simp
    have e1 : (pre.length : Int) < (l.length : Int) := by omega
    have e2 : (0 : Int) ≤ (pre.length : Int) := by omega
    have e3 : (l.map rowI)[pre.length]? = some [.int .i64 x] := by rw [hp]; simp [rowI]
    have e4 : IntKind.i64.wrap ((pre.length : Int) + 1) = ((pre.length + 1 : Nat) : Int) := cast_add (by omega)
    have e5 : (pre.length : Int) ≤ (l.length : Int) := by omega
    have e6 : (l.map rowI).take pre.length = pre.map rowI := by rw [hp]; simp [List.take_append_of_le_length]
    have hr := contains_ok (N := n) pre (by omega) x (by omega)
    have ih := loop34 (n := n) l hl hN rest (pre ++ [x]) m
    rw [iter_step]
    generalize iter m (evCode ⟨run tab prim glob n, glob⟩ (iter n) b34_1) = gg at ih ⊢
    by_cases h1_ : 1 ≤ x
    · by_cases h2_ : x ≤ 3
      · by_cases h3_ : (pre.any fun x_1 => decide (x = x_1)) = true
        · simp only [go_sem, Nat.reduceAdd, Nat.reduceMul, reduceIte, Nat.reduceLeDiff, Int.reduceLE, Int.reduceLT, Int.reduceToNat, b34_1, ob34_1_1, ob34_1_2, ob34_1_3, ob34_1_4, ob34_1_5, hk, e1, e2, e3, e4, e5, e6, hr, List.length_map, afterIt, storesFrom, rng, h1_, Int.not_lt.2 h1_, h2_, Int.not_lt.2 h2_, h3_]
          exact Ends.of ⟨rfl, rfl⟩
        · simp only [go_sem, Nat.reduceAdd, Nat.reduceMul, reduceIte, Nat.reduceLeDiff, Int.reduceLE, Int.reduceLT, Int.reduceToNat, b34_1, ob34_1_1, ob34_1_2, ob34_1_3, ob34_1_4, ob34_1_5, hk, e1, e2, e3, e4, e5, e6, hr, List.length_map, afterIt, storesFrom, rng, h1_, Int.not_lt.2 h1_, h2_, Int.not_lt.2 h2_, h3_]
          refine ih _ _ (by rw [hp]; simp) (by simp at hm; omega) ?_
          rw [List.length_append]; rfl
      · simp only [go_sem, Nat.reduceAdd, Nat.reduceMul, reduceIte, Nat.reduceLeDiff, Int.reduceLE, Int.reduceLT, Int.reduceToNat, b34_1, ob34_1_1, ob34_1_2, ob34_1_3, ob34_1_4, ob34_1_5, hk, e1, e2, e3, e4, e5, e6, hr, List.length_map, afterIt, storesFrom, rng, h1_, Int.not_lt.2 h1_, h2_, Int.not_le.1 h2_]
        exact Ends.of ⟨rfl, rfl⟩
    · simp only [go_sem, Nat.reduceAdd, Nat.reduceMul, reduceIte, Nat.reduceLeDiff, Int.reduceLE, Int.reduceLT, Int.reduceToNat, b34_1, ob34_1_1, ob34_1_2, ob34_1_3, ob34_1_4, ob34_1_5, hk, e1, e2, e3, e4, e5, e6, hr, List.length_map, afterIt, storesFrom, rng, h1_, Int.not_le.1 h1_]
      exact Ends.of ⟨rfl, rfl⟩
theorem stores_ok {N : Nat} (l : List Int) (hl : l.length ≤ 1000000000) (hN : l.length + 12 ≤ N) : run tab prim glob N 34 [.ro (l.map rowI)] = some (.bool (stores l), []) := by
  obtain ⟨n, rfl⟩ : ∃ n, N = n + 1 := ⟨N - 1, by omega⟩
  rw [enters (fn := c34) rfl]
  have hL := fun env H h => loop34 (n := n) l hl (by omega) l [] n env H rfl (by omega) h
  simp only [c34, o34_1, o34_2, o34_3, go_sem, Nat.reduceAdd, Nat.reduceMul, reduceIte, Nat.reduceLeDiff, Int.reduceLE, Int.reduceLT, Int.reduceToNat, List.length_map]
  generalize iter n (evCode ⟨run tab prim glob n, glob⟩ (iter n) b34_1) = gg at hL ⊢
  generalize hE : gg _ _ = o
  obtain ⟨ex, env', H', rfl, h2⟩ := Ends.at hL hE (by rfl)
  unfold Tells at h2
  cases hb : storesFrom [] l
  · rw [hb] at h2
    obtain ⟨rfl, h3⟩ := h2
    simp only [go_sem, Nat.reduceAdd, Nat.reduceMul, reduceIte, Nat.reduceLeDiff, Int.reduceLE, Int.reduceLT, Int.reduceToNat, h3, stores, hb]
  · rw [hb] at h2
    obtain ⟨rfl, h3⟩ := h2
    simp only [go_sem, Nat.reduceAdd, Nat.reduceMul, reduceIte, Nat.reduceLeDiff, Int.reduceLE, Int.reduceLT, Int.reduceToNat, h3, stores, hb, List.length_map]
def stores40 (s1 s2 s3 : Bool) : List Int → Bool
  | [] => true
  | m :: r => if m = 1 then !s1 && stores40 true s2 s3 r else if m = 2 then !s2 && stores40 s1 true s3 r else if m = 3 then !s3 && stores40 s1 s2 true r else false
theorem loop40 {n : Nat} (l : List Int) (hl : l.length ≤ 1000000000) : ∀ (rest pre : List Int) (s1 s2 s3 : Bool) (m : Nat) (env : Env) (H : Heap), l = pre ++ rest → rest.length + 1 ≤ m →
    evGh (.keep [0, 3, 4] [100003]) env H = some ([(0, .ro (l.map rowI)), (3, .ptr 100003 0), (4, .int .i64 pre.length)], [(100003, .box [.bool false, .bool s1, .bool s2, .bool s3])]) →
    Ends (iter m (evCode ⟨run tab prim glob n, glob⟩ (iter n) b40_1) env H) (Tells (stores40 s1 s2 s3 rest) 0 (.ro (l.map rowI)) 2 (.bool false))
  | [], pre, s1, s2, s3, m + 1, env, H, hp, hm, hk => by
    have e1 : pre.length = l.length := by rw [hp]; simp
    rw [iter_step]
    generalize iter m (evCode ⟨run tab prim glob n, glob⟩ (iter n) b40_1) = g
    simp only [b40_1, ob40_1_1, ob40_1_2, ob40_1_3, ob40_1_4, ob40_1_5, hk, go_sem, Nat.reduceAdd, Nat.reduceMul, reduceIte, Nat.reduceLeDiff, Int.reduceLE, Int.reduceLT, Int.reduceToNat, e1, List.length_map, Int.lt_irrefl, afterIt, stores40]
    exact Ends.of ⟨rfl, rfl⟩
  | x :: rest, pre, s1, s2, s3, m + 1, env, H, hp, hm, hk => by
    have e0 : pre.length < l.length := by rw [hp]; simp
    have e1 : (pre.length : Int) < (l.length : Int) := by omega
    have e2 : (0 : Int) ≤ (pre.length : Int) := by omega
    have e3 : (l.map rowI)[pre.length]? = some [.int .i64 x] := by rw [hp]; simp [rowI]
    have e4 : IntKind.i64.wrap ((pre.length : Int) + 1) = ((pre.length + 1 : Nat) : Int) := cast_add (by omega)
    have ih1 := loop40 (n := n) l hl rest (pre ++ [x]) true s2 s3 m
    have ih2 := loop40 (n := n) l hl rest (pre ++ [x]) s1 true s3 m
    have ih3 := loop40 (n := n) l hl rest (pre ++ [x]) s1 s2 true m
    rw [iter_step]
    generalize iter m (evCode ⟨run tab prim glob n, glob⟩ (iter n) b40_1) = gg at ih1 ih2 ih3 ⊢
    have i21 : ((2 : Int) = 1) = False := by decide
    have i31 : ((3 : Int) = 1) = False := by decide
    have i32 : ((3 : Int) = 2) = False := by decide
    by_cases k1 : x = 1
    · subst k1
      cases s1
      · simp only [b40_1, ob40_1_1, ob40_1_2, ob40_1_3, ob40_1_4, ob40_1_5, hk, go_sem, Nat.reduceAdd, Nat.reduceMul, reduceIte, Nat.reduceLeDiff, Int.reduceLE, Int.reduceLT, Int.reduceToNat, e1, e2, e3, e4, List.length_map, afterIt, stores40]
        refine ih1 _ _ (by rw [hp]; simp) (by simp at hm; omega) ?_
        rw [List.length_append]; rfl
      · simp only [b40_1, ob40_1_1, ob40_1_2, ob40_1_3, ob40_1_4, ob40_1_5, hk, go_sem, Nat.reduceAdd, Nat.reduceMul, reduceIte, Nat.reduceLeDiff, Int.reduceLE, Int.reduceLT, Int.reduceToNat, e1, e2, e3, e4, List.length_map, afterIt, stores40]
        exact Ends.of ⟨rfl, rfl⟩
    by_cases k2 : x = 2
    · subst k2
      cases s2
      · simp only [b40_1, ob40_1_1, ob40_1_2, ob40_1_3, ob40_1_4, ob40_1_5, hk, go_sem, Nat.reduceAdd, Nat.reduceMul, reduceIte, Nat.reduceLeDiff, Int.reduceLE, Int.reduceLT, Int.reduceToNat, e1, e2, e3, e4, List.length_map, afterIt, stores40, i21]
        refine ih2 _ _ (by rw [hp]; simp) (by simp at hm; omega) ?_
        rw [List.length_append]; rfl
      · simp only [b40_1, ob40_1_1, ob40_1_2, ob40_1_3, ob40_1_4, ob40_1_5, hk, go_sem, Nat.reduceAdd, Nat.reduceMul, reduceIte, Nat.reduceLeDiff, Int.reduceLE, Int.reduceLT, Int.reduceToNat, e1, e2, e3, e4, List.length_map, afterIt, stores40, i21]
        exact Ends.of ⟨rfl, rfl⟩
    by_cases k3 : x = 3
    · subst k3
      cases s3
      · simp only [b40_1, ob40_1_1, ob40_1_2, ob40_1_3, ob40_1_4, ob40_1_5, hk, go_sem, Nat.reduceAdd, Nat.reduceMul, reduceIte, Nat.reduceLeDiff, Int.reduceLE, Int.reduceLT, Int.reduceToNat, e1, e2, e3, e4, List.length_map, afterIt, stores40, i31, i32]
        refine ih3 _ _ (by rw [hp]; simp) (by simp at hm; omega) ?_
        rw [List.length_append]; rfl
      · simp only [b40_1, ob40_1_1, ob40_1_2, ob40_1_3, ob40_1_4, ob40_1_5, hk, go_sem, Nat.reduceAdd, Nat.reduceMul, reduceIte, Nat.reduceLeDiff, Int.reduceLE, Int.reduceLT, Int.reduceToNat, e1, e2, e3, e4, List.length_map, afterIt, stores40, i31, i32]
        exact Ends.of ⟨rfl, rfl⟩
    by_cases k4 : x < 1
    · simp only [b40_1, ob40_1_1, ob40_1_2, ob40_1_3, ob40_1_4, ob40_1_5, hk, go_sem, Nat.reduceAdd, Nat.reduceMul, reduceIte, Nat.reduceLeDiff, Int.reduceLE, Int.reduceLT, Int.reduceToNat, e1, e2, e3, e4, List.length_map, afterIt, stores40, k1, k2, k3, k4]
      exact Ends.of ⟨rfl, rfl⟩
    · have k5 : 3 < x := by omega
      simp only [b40_1, ob40_1_1, ob40_1_2, ob40_1_3, ob40_1_4, ob40_1_5, hk, go_sem, Nat.reduceAdd, Nat.reduceMul, reduceIte, Nat.reduceLeDiff, Int.reduceLE, Int.reduceLT, Int.reduceToNat, e1, e2, e3, e4, List.length_map, afterIt, stores40, k1, k2, k3, k4, k5]
      exact Ends.of ⟨rfl, rfl⟩
theorem stores_same : ∀ (l pre : List Int), stores40 (pre.any fun x => decide ((1 : Int) = x)) (pre.any fun x => decide ((2 : Int) = x)) (pre.any fun x => decide ((3 : Int) = x)) l = storesFrom pre l
  | [], pre => rfl
  | m :: r, pre => by
    have ih := stores_same r (pre ++ [m])
    simp only [List.any_append, List.any_cons, List.any_nil, Bool.or_false] at ih
    simp only [stores40, storesFrom]
    by_cases k1 : m = 1
    · subst k1
      simp only [show decide ((2 : Int) = 1) = false from rfl, show decide ((3 : Int) = 1) = false from rfl, decide_true, Bool.or_true, Bool.or_false] at ih
      rw [if_pos rfl, ih]
      simp [rng]
    by_cases k2 : m = 2
    · subst k2
      simp only [show decide ((1 : Int) = 2) = false from rfl, show decide ((3 : Int) = 2) = false from rfl, decide_true, Bool.or_true, Bool.or_false] at ih
      rw [if_neg k1, if_pos rfl, ih]
      simp [rng]
    by_cases k3 : m = 3
    · subst k3
      simp only [show decide ((1 : Int) = 3) = false from rfl, show decide ((2 : Int) = 3) = false from rfl, decide_true, Bool.or_true, Bool.or_false] at ih
      rw [if_neg k1, if_neg k2, if_pos rfl, ih]
      simp [rng]
    rw [if_neg k1, if_neg k2, if_neg k3]
    have : rng 1 3 m = false := by
      unfold rng
      rw [← Bool.not_eq_true]
      simp only [Bool.and_eq_true, decide_eq_true_eq]
      omega
    rw [this]; simp
theorem stores19_ok {N : Nat} (l : List Int) (hl : l.length ≤ 1000000000) (hN : l.length + 12 ≤ N) : run tab prim glob N 40 [.ro (l.map rowI)] = some (.bool (stores l), []) := by
  obtain ⟨n, rfl⟩ : ∃ n, N = n + 1 := ⟨N - 1, by omega⟩
  rw [enters (fn := c40) rfl]
  have hL := fun env H h => loop40 (n := n) l hl l [] false false false n env H rfl (by omega) h
  simp only [c40, o40_1, o40_2, o40_3, o40_4, go_sem, Nat.reduceAdd, Nat.reduceMul, reduceIte, Nat.reduceLeDiff, Int.reduceLE, Int.reduceLT, Int.reduceToNat, List.length_map]
  generalize iter n (evCode ⟨run tab prim glob n, glob⟩ (iter n) b40_1) = gg at hL ⊢
  generalize hE : gg _ _ = o
  obtain ⟨ex, env', H', rfl, h2⟩ := Ends.at hL hE (by rfl)
  unfold Tells at h2
  rw [show stores40 false false false l = storesFrom [] l from stores_same l []] at h2
  cases hb : storesFrom [] l
  · rw [hb] at h2
    obtain ⟨rfl, h3⟩ := h2
    simp only [go_sem, Nat.reduceAdd, Nat.reduceMul, reduceIte, Nat.reduceLeDiff, Int.reduceLE, Int.reduceLT, Int.reduceToNat, h3, stores, hb]
  · rw [hb] at h2
    obtain ⟨rfl, h3⟩ := h2
    simp only [go_sem, Nat.reduceAdd, Nat.reduceMul, reduceIte, Nat.reduceLeDiff, Int.reduceLE, Int.reduceLT, Int.reduceToNat, h3, stores, hb, List.length_map]
end Go.Proofs.YtefoleocbhkobaaGreatDoor
namespace Go.Proofs.YtefoleocbhkobaaGreatDoor
open Go Go.Ev
set_option linter.unusedSectionVars false
set_option linter.unusedSimpArgs false
set_option linter.unusedVariables false
theorem loop36 {n : Nat} (l : List Le) (hl : l.length ≤ 2000000) : ∀ (rest pre : List Le) (last : Int) (m : Nat) (env : Env) (H : Heap), l = pre ++ rest → 0 ≤ last → (pre = [] ∧ last = 0 ∨ ∃ p0 y, pre = p0 ++ [y] ∧ last = y.id) → rest.length + 1 ≤ m →
    evGh (.keep [0, 3] []) env H = some ([(0, .ro (l.map Le.cells)), (3, .int .i64 pre.length)], []) →
    Ends (iter m (evCode ⟨run tab prim glob (n + 2), glob⟩ (iter (n + 2)) b36_1) env H) (Tells (leasesFrom last rest) 0 (.ro (l.map Le.cells)) 2 (.bool false))
  | [], pre, last, m + 1, env, H, hp, h0, hlast, hm, hk => by
    have e1 : pre.length = l.length := by rw [hp]; simp
    rw [iter_step]
    generalize iter m (evCode ⟨run tab prim glob (n + 2), glob⟩ (iter (n + 2)) b36_1) = g
    simp only [b36_1, ob36_1_1, ob36_1_2, ob36_1_3, ob36_1_4, ob36_1_5, ob36_1_6, hk, go_sem, Nat.reduceAdd, Nat.reduceMul, reduceIte, Nat.reduceLeDiff, Int.reduceLE, Int.reduceLT, Int.reduceToNat, e1, List.length_map, Int.lt_irrefl, afterIt, leasesFrom]
    exact Ends.of ⟨rfl, rfl⟩
  | x :: rest, pre, last, m + 1, env, H, hp, h0, hlast, hm, hk => by
    have e0 : pre.length < l.length := by rw [hp]; simp
    have e1 : (pre.length : Int) < (l.length : Int) := by omega
    have e2 : (0 : Int) ≤ (pre.length : Int) := by omega
    have e3 : (l.map Le.cells)[pre.length]? = some [.int .i64 x.id, .int .i64 x.left, .int .i64 x.tm.wall, .int .i64 x.tm.tick, .int .i64 x.tm.node] := by rw [hp]; simp [Le.cells]
    have e4 : IntKind.i64.wrap ((pre.length : Int) + 1) = ((pre.length + 1 : Nat) : Int) := cast_add (by omega)
    have hs : run tab prim glob (n + 2) 38 [.agg [.int .i64 x.tm.wall, .int .i64 x.tm.tick, .int .i64 x.tm.node]] = some (.bool x.tm.right, []) := stampR05_ok (by omega) x.tm
    have ih := fun (env2 : Env) (H2 : Heap) (h0 : 0 ≤ x.id) => loop36 (n := n) l hl rest (pre ++ [x]) x.id m env2 H2 (by rw [hp]; simp) h0 (.inr ⟨pre, x, rfl, rfl⟩)
    rw [iter_step]
    generalize iter m (evCode ⟨run tab prim glob (n + 2), glob⟩ (iter (n + 2)) b36_1) = g at ih ⊢
    rcases hlast with ⟨rfl, rfl⟩ | ⟨p0, y, rfl, rfl⟩
    · have hk : evGh (.keep [0, 3] []) env H = some ([(0, .ro (l.map Le.cells)), (3, .int .i64 0)], []) := hk
      have e1 : (0 : Int) < (l.length : Int) := e1
      have e3 : (l.map Le.cells)[0]? = some [.int .i64 x.id, .int .i64 x.left, .int .i64 x.tm.wall, .int .i64 x.tm.tick, .int .i64 x.tm.node] := e3
      have e4 : IntKind.i64.wrap ((0 : Int) + 1) = 1 := by decide
      clear e2
      have e2 : (0 : Int) ≤ 0 := by decide
      by_cases h1 : 1 ≤ x.id
      case neg =>
        have hq : ¬ (0 : Int) < x.id := by omega
        simp only [b36_1, ob36_1_1, ob36_1_2, ob36_1_3, ob36_1_4, ob36_1_5, ob36_1_6, hk, go_sem, Nat.reduceAdd, Nat.reduceMul, reduceIte, Nat.reduceLeDiff, Int.reduceLE, Int.reduceLT, Int.reduceToNat, e1, e2, e3, e4, hs, List.length_map, leasesFrom, afterIt, h1, Int.not_le.1 h1, hq]
        exact Ends.of ⟨rfl, rfl⟩
      have h1' := Int.not_lt.2 h1
      have hq : (0 : Int) < x.id := by omega
      by_cases h1_ : x.id ≤ 1099511627776
      · by_cases h2_ : 1 ≤ x.left
        · by_cases h3_ : x.left ≤ 20
          · by_cases h4_ : x.tm.right = true
            · simp only [go_sem, Nat.reduceAdd, Nat.reduceMul, reduceIte, Nat.reduceLeDiff, Int.reduceLE, Int.reduceLT, Int.reduceToNat, b36_1, ob36_1_1, ob36_1_2, ob36_1_3, ob36_1_4, ob36_1_5, ob36_1_6, hk, e1, e2, e3, e4, hs, List.length_map, leasesFrom, afterIt, h1, h1', hq, Int.lt_irrefl, h1_, Int.not_lt.2 h1_, h2_, Int.not_lt.2 h2_, h3_, Int.not_lt.2 h3_, h4_]
              refine ih _ _ (by omega) (by simp at hm; omega) ?_
              simp only [go_sem, Nat.reduceAdd, Nat.reduceMul, reduceIte, Nat.reduceLeDiff, Int.reduceLE, Int.reduceLT, Int.reduceToNat, mentL, ment, ment1, evGh, keepE, keepH]
            · simp only [go_sem, Nat.reduceAdd, Nat.reduceMul, reduceIte, Nat.reduceLeDiff, Int.reduceLE, Int.reduceLT, Int.reduceToNat, b36_1, ob36_1_1, ob36_1_2, ob36_1_3, ob36_1_4, ob36_1_5, ob36_1_6, hk, e1, e2, e3, e4, hs, List.length_map, leasesFrom, afterIt, h1, h1', hq, Int.lt_irrefl, h1_, Int.not_lt.2 h1_, h2_, Int.not_lt.2 h2_, h3_, Int.not_lt.2 h3_, h4_]
              exact Ends.of ⟨rfl, rfl⟩
          · simp only [go_sem, Nat.reduceAdd, Nat.reduceMul, reduceIte, Nat.reduceLeDiff, Int.reduceLE, Int.reduceLT, Int.reduceToNat, b36_1, ob36_1_1, ob36_1_2, ob36_1_3, ob36_1_4, ob36_1_5, ob36_1_6, hk, e1, e2, e3, e4, hs, List.length_map, leasesFrom, afterIt, h1, h1', hq, Int.lt_irrefl, h1_, Int.not_lt.2 h1_, h2_, Int.not_lt.2 h2_, h3_, Int.not_le.1 h3_]
            exact Ends.of ⟨rfl, rfl⟩
        · simp only [go_sem, Nat.reduceAdd, Nat.reduceMul, reduceIte, Nat.reduceLeDiff, Int.reduceLE, Int.reduceLT, Int.reduceToNat, b36_1, ob36_1_1, ob36_1_2, ob36_1_3, ob36_1_4, ob36_1_5, ob36_1_6, hk, e1, e2, e3, e4, hs, List.length_map, leasesFrom, afterIt, h1, h1', hq, Int.lt_irrefl, h1_, Int.not_lt.2 h1_, h2_, Int.not_le.1 h2_]
          exact Ends.of ⟨rfl, rfl⟩
      · simp only [go_sem, Nat.reduceAdd, Nat.reduceMul, reduceIte, Nat.reduceLeDiff, Int.reduceLE, Int.reduceLT, Int.reduceToNat, b36_1, ob36_1_1, ob36_1_2, ob36_1_3, ob36_1_4, ob36_1_5, ob36_1_6, hk, e1, e2, e3, e4, hs, List.length_map, leasesFrom, afterIt, h1, h1', hq, Int.lt_irrefl, h1_, Int.not_le.1 h1_]
        exact Ends.of ⟨rfl, rfl⟩
    · have e5 : (0 : Int) < ((p0 ++ [y]).length : Int) := by simp <;> omega
      have e6 : IntKind.i64.wrap (((p0 ++ [y]).length : Int) - 1) = (p0.length : Int) := by
        rw [IntWalk.i64_in _ (by omega)]; simp
      have e7 : (0 : Int) ≤ (p0.length : Int) := by omega
      have e8 : (l.map Le.cells)[p0.length]? = some [.int .i64 y.id, .int .i64 y.left, .int .i64 y.tm.wall, .int .i64 y.tm.tick, .int .i64 y.tm.node] := by rw [hp]; simp [Le.cells]
      by_cases h1 : 1 ≤ x.id
      case neg =>
        have hq : ¬ y.id < x.id := by omega
        simp only [b36_1, ob36_1_1, ob36_1_2, ob36_1_3, ob36_1_4, ob36_1_5, ob36_1_6, hk, go_sem, Nat.reduceAdd, Nat.reduceMul, reduceIte, Nat.reduceLeDiff, Int.reduceLE, Int.reduceLT, Int.reduceToNat, e1, e2, e3, e4, e5, e6, e7, e8, hs, List.length_map, leasesFrom, afterIt, h1, Int.not_le.1 h1, hq]
        exact Ends.of ⟨rfl, rfl⟩
      have h1' := Int.not_lt.2 h1
      by_cases h1_ : x.id ≤ 1099511627776
      · by_cases h2_ : 1 ≤ x.left
        · by_cases h3_ : x.left ≤ 20
          · by_cases h4_ : x.tm.right = true
            · by_cases h5_ : y.id < x.id
              · simp only [go_sem, Nat.reduceAdd, Nat.reduceMul, reduceIte, Nat.reduceLeDiff, Int.reduceLE, Int.reduceLT, Int.reduceToNat, b36_1, ob36_1_1, ob36_1_2, ob36_1_3, ob36_1_4, ob36_1_5, ob36_1_6, hk, e1, e2, e3, e4, e5, e6, e7, e8, hs, List.length_map, leasesFrom, afterIt, h1, h1', h1_, Int.not_lt.2 h1_, h2_, Int.not_lt.2 h2_, h3_, Int.not_lt.2 h3_, h4_, h5_, Int.not_le.2 h5_]
                refine ih _ _ (by omega) (by simp at hm; omega) ?_
                rw [show (p0 ++ [y] ++ [x]).length = (p0 ++ [y]).length + 1 from List.length_append]; simp only [go_sem, Nat.reduceAdd, Nat.reduceMul, reduceIte, Nat.reduceLeDiff, Int.reduceLE, Int.reduceLT, Int.reduceToNat, mentL, ment, ment1, evGh, keepE, keepH]
              · simp only [go_sem, Nat.reduceAdd, Nat.reduceMul, reduceIte, Nat.reduceLeDiff, Int.reduceLE, Int.reduceLT, Int.reduceToNat, b36_1, ob36_1_1, ob36_1_2, ob36_1_3, ob36_1_4, ob36_1_5, ob36_1_6, hk, e1, e2, e3, e4, e5, e6, e7, e8, hs, List.length_map, leasesFrom, afterIt, h1, h1', h1_, Int.not_lt.2 h1_, h2_, Int.not_lt.2 h2_, h3_, Int.not_lt.2 h3_, h4_, h5_, Int.not_lt.1 h5_]
                exact Ends.of ⟨rfl, rfl⟩
            · simp only [go_sem, Nat.reduceAdd, Nat.reduceMul, reduceIte, Nat.reduceLeDiff, Int.reduceLE, Int.reduceLT, Int.reduceToNat, b36_1, ob36_1_1, ob36_1_2, ob36_1_3, ob36_1_4, ob36_1_5, ob36_1_6, hk, e1, e2, e3, e4, e5, e6, e7, e8, hs, List.length_map, leasesFrom, afterIt, h1, h1', h1_, Int.not_lt.2 h1_, h2_, Int.not_lt.2 h2_, h3_, Int.not_lt.2 h3_, h4_]
              exact Ends.of ⟨rfl, rfl⟩
          · simp only [go_sem, Nat.reduceAdd, Nat.reduceMul, reduceIte, Nat.reduceLeDiff, Int.reduceLE, Int.reduceLT, Int.reduceToNat, b36_1, ob36_1_1, ob36_1_2, ob36_1_3, ob36_1_4, ob36_1_5, ob36_1_6, hk, e1, e2, e3, e4, e5, e6, e7, e8, hs, List.length_map, leasesFrom, afterIt, h1, h1', h1_, Int.not_lt.2 h1_, h2_, Int.not_lt.2 h2_, h3_, Int.not_le.1 h3_]
            exact Ends.of ⟨rfl, rfl⟩
        · simp only [go_sem, Nat.reduceAdd, Nat.reduceMul, reduceIte, Nat.reduceLeDiff, Int.reduceLE, Int.reduceLT, Int.reduceToNat, b36_1, ob36_1_1, ob36_1_2, ob36_1_3, ob36_1_4, ob36_1_5, ob36_1_6, hk, e1, e2, e3, e4, e5, e6, e7, e8, hs, List.length_map, leasesFrom, afterIt, h1, h1', h1_, Int.not_lt.2 h1_, h2_, Int.not_le.1 h2_]
          exact Ends.of ⟨rfl, rfl⟩
      · simp only [go_sem, Nat.reduceAdd, Nat.reduceMul, reduceIte, Nat.reduceLeDiff, Int.reduceLE, Int.reduceLT, Int.reduceToNat, b36_1, ob36_1_1, ob36_1_2, ob36_1_3, ob36_1_4, ob36_1_5, ob36_1_6, hk, e1, e2, e3, e4, e5, e6, e7, e8, hs, List.length_map, leasesFrom, afterIt, h1, h1', h1_, Int.not_le.1 h1_]
        exact Ends.of ⟨rfl, rfl⟩
theorem leaseR16_ok {N : Nat} (l : List Le) (hl : l.length ≤ 2000000) (hN : l.length + 4 ≤ N) : run tab prim glob N 36 [.ro (l.map Le.cells)] = some (.bool (leasesRight l), []) := by
  obtain ⟨n, rfl⟩ : ∃ n, N = n + 3 := ⟨N - 3, by omega⟩
  rw [enters (n := n + 2) (fn := c36) rfl]
  have hL := fun env H h => loop36 (n := n) l hl l [] 0 (n + 2) env H rfl (by omega) (.inl ⟨rfl, rfl⟩) (by omega) h
  have e5 : ((4 : Int) < (l.length : Int)) = ¬ (l.length ≤ 4) := by simp; omega
  by_cases h4 : l.length ≤ 4
  · simp only [c36, o36_1, o36_2, o36_3, o36_4, o36_5, go_sem, Nat.reduceAdd, Nat.reduceMul, reduceIte, Nat.reduceLeDiff, Int.reduceLE, Int.reduceLT, Int.reduceToNat, List.length_map, e5, h4, not_true]
    generalize iter (n + 2) (evCode ⟨run tab prim glob (n + 2), glob⟩ (iter (n + 2)) b36_1) = g at hL ⊢
    generalize hE : g _ _ = o
    obtain ⟨ex, env', H', rfl, h2⟩ := Ends.at hL hE (by rfl)
    unfold Tells at h2
    cases hb : leasesFrom 0 l
    · rw [hb] at h2
      obtain ⟨rfl, h3⟩ := h2
      simp only [go_sem, Nat.reduceAdd, Nat.reduceMul, reduceIte, Nat.reduceLeDiff, Int.reduceLE, Int.reduceLT, Int.reduceToNat, h3, leasesRight, hb]
    · rw [hb] at h2
      obtain ⟨rfl, h3⟩ := h2
      simp only [go_sem, Nat.reduceAdd, Nat.reduceMul, reduceIte, Nat.reduceLeDiff, Int.reduceLE, Int.reduceLT, Int.reduceToNat, h3, leasesRight, hb, h4]
  · simp only [c36, o36_1, o36_2, o36_3, o36_4, o36_5, go_sem, Nat.reduceAdd, Nat.reduceMul, reduceIte, Nat.reduceLeDiff, Int.reduceLE, Int.reduceLT, Int.reduceToNat, List.length_map, e5, h4, not_false_iff, leasesRight]
end Go.Proofs.YtefoleocbhkobaaGreatDoor
namespace Go.Proofs.YtefoleocbhkobaaGreatDoor
open Go Go.Ev
set_option linter.unusedSectionVars false
set_option linter.unusedSimpArgs false
set_option linter.unusedVariables false
def strs (l : List (List UInt8)) : PV := .ro (l.map fun s => [.str s])
def Jb.cells (j : Jb) : List PV := [.int .i64 j.kind, .int .i64 j.step, .int .i64 j.id, .int .i64 j.shard, .int .i64 j.other, .int .i64 j.cell, .int .i64 j.to, .int .i64 j.epoch, .str j.key, .ro (j.parts.map fun s => [.str s]),
  .int .i64 j.part, .int .i64 j.client, .int .i64 j.req, .str j.lo, .str j.hi, .ro (j.wait.map rowI), .int .i64 j.tm.wall, .int .i64 j.tm.tick, .int .i64 j.tm.node, .ro (j.members.map rowI)]
def Jb.nums (j : Jb) : Bool := rng 0 1099511627776 j.id && rng 0 1099511627776 j.shard && rng 0 1099511627776 j.other && rng 0 1099511627776 j.epoch && rng 0 1099511627776 j.part && rng 0 1099511627776 j.client && rng 0 1099511627776 j.req
def Jb.right (j : Jb) : Bool :=
  rng 0 5 j.kind && rng 0 7 j.step && j.nums && allFrom 0 j.wait && j.tm.right &&
  (rng 0 3 j.cell && rng 0 3 j.to && (decide ((j.members.length : Int) ≤ 0) || stores j.members)) &&
  (if j.kind = 5 then decide (0 < j.cell) && decide (0 < (j.members.length : Int)) else if j.kind = 1 then decide (0 < j.cell) && decide (0 < j.to) else if j.kind = 2 then decide (0 < j.cell) else if j.kind = 3 then decide (0 < j.cell) else true)
set_option maxRecDepth 100000 in
set_option maxHeartbeats 16000000 in
theorem job_ok {N : Nat} (j : Jb) (h1 : j.wait.length ≤ 1000000000) (h2 : j.members.length ≤ 1000000000) (hN : j.wait.length + j.members.length + 40 ≤ N) : run tab prim glob N 32 [.agg j.cells] = some (.bool j.right, []) := by
  obtain ⟨n, rfl⟩ : ∃ n, N = n + 1 := ⟨N - 1, by omega⟩
  rw [enters (fn := c32) rfl]
  have r1 : run tab prim glob n 33 [.int .i64 0, .ro [[.int .i64 j.id], [.int .i64 j.shard], [.int .i64 j.other], [.int .i64 j.epoch], [.int .i64 j.part], [.int .i64 j.client], [.int .i64 j.req]]] = some (.bool j.nums, []) := by
    have := from_ok (N := n) 0 [j.id, j.shard, j.other, j.epoch, j.part, j.client, j.req] (by simp) (by simp; omega)
    have e : allFrom 0 [j.id, j.shard, j.other, j.epoch, j.part, j.client, j.req] = j.nums := by simp [allFrom, Jb.nums, Bool.and_assoc]
    rw [e] at this
    exact this
  have r2 := from_ok (N := n) 0 j.wait h1 (by omega)
  have r3 : run tab prim glob n 31 [.agg [.int .i64 j.tm.wall, .int .i64 j.tm.tick, .int .i64 j.tm.node]] = some (.bool j.tm.right, []) := stampR_ok (by omega) j.tm
  have r4 := stores_ok (N := n) j.members h2 (by omega)
  by_cases h1_ : 0 ≤ j.kind
  · by_cases h2_ : j.kind ≤ 5
    · by_cases h3_ : 0 ≤ j.step
      · by_cases h4_ : j.step ≤ 7
        · by_cases h5_ : j.nums = true
          · by_cases h6_ : allFrom 0 j.wait = true
            · by_cases h7_ : j.tm.right = true
              · by_cases h8_ : 0 ≤ j.cell
                · by_cases h9_ : j.cell ≤ 3
                  · by_cases h10_ : 0 ≤ j.to
                    · by_cases h11_ : j.to ≤ 3
                      · by_cases k1 : 0 < (j.members.length : Int)
                        · have k1' := Int.not_le.2 k1
                          by_cases k2 : stores j.members = true
                          · by_cases g5 : j.kind = 5
                            · have g5' := eq_true g5
                              by_cases k3 : 0 < j.cell
                              · simp only [go_sem, Nat.reduceAdd, Nat.reduceMul, reduceIte, Nat.reduceLeDiff, Int.reduceLE, Int.reduceLT, Int.reduceToNat, c32, o32_1, o32_2, o32_3, o32_4, o32_5, o32_6, o32_7, o32_8, o32_9, o32_10, o32_11, o32_12, o32_13, o32_14, Jb.cells, r1, r2, r3, r4, List.length_map, Jb.right, rng, h1_, Int.not_lt.2 h1_, h2_, Int.not_lt.2 h2_, h3_, Int.not_lt.2 h3_, h4_, Int.not_lt.2 h4_, h5_, h6_, h7_, h8_, Int.not_lt.2 h8_, h9_, Int.not_lt.2 h9_, h10_, Int.not_lt.2 h10_, h11_, Int.not_lt.2 h11_, k1, k1', k2, g5', k3]
                              · simp only [go_sem, Nat.reduceAdd, Nat.reduceMul, reduceIte, Nat.reduceLeDiff, Int.reduceLE, Int.reduceLT, Int.reduceToNat, c32, o32_1, o32_2, o32_3, o32_4, o32_5, o32_6, o32_7, o32_8, o32_9, o32_10, o32_11, o32_12, o32_13, o32_14, Jb.cells, r1, r2, r3, r4, List.length_map, Jb.right, rng, h1_, Int.not_lt.2 h1_, h2_, Int.not_lt.2 h2_, h3_, Int.not_lt.2 h3_, h4_, Int.not_lt.2 h4_, h5_, h6_, h7_, h8_, Int.not_lt.2 h8_, h9_, Int.not_lt.2 h9_, h10_, Int.not_lt.2 h10_, h11_, Int.not_lt.2 h11_, k1, k1', k2, g5', k3]
                            by_cases g1 : j.kind = 1
                            · have g1' := eq_true g1
                              by_cases k3 : 0 < j.cell
                              · by_cases k4 : 0 < j.to
                                · simp only [go_sem, Nat.reduceAdd, Nat.reduceMul, reduceIte, Nat.reduceLeDiff, Int.reduceLE, Int.reduceLT, Int.reduceToNat, c32, o32_1, o32_2, o32_3, o32_4, o32_5, o32_6, o32_7, o32_8, o32_9, o32_10, o32_11, o32_12, o32_13, o32_14, Jb.cells, r1, r2, r3, r4, List.length_map, Jb.right, rng, h1_, Int.not_lt.2 h1_, h2_, Int.not_lt.2 h2_, h3_, Int.not_lt.2 h3_, h4_, Int.not_lt.2 h4_, h5_, h6_, h7_, h8_, Int.not_lt.2 h8_, h9_, Int.not_lt.2 h9_, h10_, Int.not_lt.2 h10_, h11_, Int.not_lt.2 h11_, k1, k1', k2, g5, g1', k3, k4]
                                · simp only [go_sem, Nat.reduceAdd, Nat.reduceMul, reduceIte, Nat.reduceLeDiff, Int.reduceLE, Int.reduceLT, Int.reduceToNat, c32, o32_1, o32_2, o32_3, o32_4, o32_5, o32_6, o32_7, o32_8, o32_9, o32_10, o32_11, o32_12, o32_13, o32_14, Jb.cells, r1, r2, r3, r4, List.length_map, Jb.right, rng, h1_, Int.not_lt.2 h1_, h2_, Int.not_lt.2 h2_, h3_, Int.not_lt.2 h3_, h4_, Int.not_lt.2 h4_, h5_, h6_, h7_, h8_, Int.not_lt.2 h8_, h9_, Int.not_lt.2 h9_, h10_, Int.not_lt.2 h10_, h11_, Int.not_lt.2 h11_, k1, k1', k2, g5, g1', k3, k4]
                              · simp only [go_sem, Nat.reduceAdd, Nat.reduceMul, reduceIte, Nat.reduceLeDiff, Int.reduceLE, Int.reduceLT, Int.reduceToNat, c32, o32_1, o32_2, o32_3, o32_4, o32_5, o32_6, o32_7, o32_8, o32_9, o32_10, o32_11, o32_12, o32_13, o32_14, Jb.cells, r1, r2, r3, r4, List.length_map, Jb.right, rng, h1_, Int.not_lt.2 h1_, h2_, Int.not_lt.2 h2_, h3_, Int.not_lt.2 h3_, h4_, Int.not_lt.2 h4_, h5_, h6_, h7_, h8_, Int.not_lt.2 h8_, h9_, Int.not_lt.2 h9_, h10_, Int.not_lt.2 h10_, h11_, Int.not_lt.2 h11_, k1, k1', k2, g5, g1', k3]
                            by_cases g2 : j.kind = 2
                            · have g2' := eq_true g2
                              by_cases k3 : 0 < j.cell
                              · simp only [go_sem, Nat.reduceAdd, Nat.reduceMul, reduceIte, Nat.reduceLeDiff, Int.reduceLE, Int.reduceLT, Int.reduceToNat, c32, o32_1, o32_2, o32_3, o32_4, o32_5, o32_6, o32_7, o32_8, o32_9, o32_10, o32_11, o32_12, o32_13, o32_14, Jb.cells, r1, r2, r3, r4, List.length_map, Jb.right, rng, h1_, Int.not_lt.2 h1_, h2_, Int.not_lt.2 h2_, h3_, Int.not_lt.2 h3_, h4_, Int.not_lt.2 h4_, h5_, h6_, h7_, h8_, Int.not_lt.2 h8_, h9_, Int.not_lt.2 h9_, h10_, Int.not_lt.2 h10_, h11_, Int.not_lt.2 h11_, k1, k1', k2, g5, g1, g2', k3]
                              · simp only [go_sem, Nat.reduceAdd, Nat.reduceMul, reduceIte, Nat.reduceLeDiff, Int.reduceLE, Int.reduceLT, Int.reduceToNat, c32, o32_1, o32_2, o32_3, o32_4, o32_5, o32_6, o32_7, o32_8, o32_9, o32_10, o32_11, o32_12, o32_13, o32_14, Jb.cells, r1, r2, r3, r4, List.length_map, Jb.right, rng, h1_, Int.not_lt.2 h1_, h2_, Int.not_lt.2 h2_, h3_, Int.not_lt.2 h3_, h4_, Int.not_lt.2 h4_, h5_, h6_, h7_, h8_, Int.not_lt.2 h8_, h9_, Int.not_lt.2 h9_, h10_, Int.not_lt.2 h10_, h11_, Int.not_lt.2 h11_, k1, k1', k2, g5, g1, g2', k3]
                            by_cases g3 : j.kind = 3
                            · have g3' := eq_true g3
                              by_cases k3 : 0 < j.cell
                              · simp only [go_sem, Nat.reduceAdd, Nat.reduceMul, reduceIte, Nat.reduceLeDiff, Int.reduceLE, Int.reduceLT, Int.reduceToNat, c32, o32_1, o32_2, o32_3, o32_4, o32_5, o32_6, o32_7, o32_8, o32_9, o32_10, o32_11, o32_12, o32_13, o32_14, Jb.cells, r1, r2, r3, r4, List.length_map, Jb.right, rng, h1_, Int.not_lt.2 h1_, h2_, Int.not_lt.2 h2_, h3_, Int.not_lt.2 h3_, h4_, Int.not_lt.2 h4_, h5_, h6_, h7_, h8_, Int.not_lt.2 h8_, h9_, Int.not_lt.2 h9_, h10_, Int.not_lt.2 h10_, h11_, Int.not_lt.2 h11_, k1, k1', k2, g5, g1, g2, g3', k3]
                              · simp only [go_sem, Nat.reduceAdd, Nat.reduceMul, reduceIte, Nat.reduceLeDiff, Int.reduceLE, Int.reduceLT, Int.reduceToNat, c32, o32_1, o32_2, o32_3, o32_4, o32_5, o32_6, o32_7, o32_8, o32_9, o32_10, o32_11, o32_12, o32_13, o32_14, Jb.cells, r1, r2, r3, r4, List.length_map, Jb.right, rng, h1_, Int.not_lt.2 h1_, h2_, Int.not_lt.2 h2_, h3_, Int.not_lt.2 h3_, h4_, Int.not_lt.2 h4_, h5_, h6_, h7_, h8_, Int.not_lt.2 h8_, h9_, Int.not_lt.2 h9_, h10_, Int.not_lt.2 h10_, h11_, Int.not_lt.2 h11_, k1, k1', k2, g5, g1, g2, g3', k3]
                            · simp only [go_sem, Nat.reduceAdd, Nat.reduceMul, reduceIte, Nat.reduceLeDiff, Int.reduceLE, Int.reduceLT, Int.reduceToNat, c32, o32_1, o32_2, o32_3, o32_4, o32_5, o32_6, o32_7, o32_8, o32_9, o32_10, o32_11, o32_12, o32_13, o32_14, Jb.cells, r1, r2, r3, r4, List.length_map, Jb.right, rng, h1_, Int.not_lt.2 h1_, h2_, Int.not_lt.2 h2_, h3_, Int.not_lt.2 h3_, h4_, Int.not_lt.2 h4_, h5_, h6_, h7_, h8_, Int.not_lt.2 h8_, h9_, Int.not_lt.2 h9_, h10_, Int.not_lt.2 h10_, h11_, Int.not_lt.2 h11_, k1, k1', k2, g5, g1, g2, g3]
                          · simp only [go_sem, Nat.reduceAdd, Nat.reduceMul, reduceIte, Nat.reduceLeDiff, Int.reduceLE, Int.reduceLT, Int.reduceToNat, c32, o32_1, o32_2, o32_3, o32_4, o32_5, o32_6, o32_7, o32_8, o32_9, o32_10, o32_11, o32_12, o32_13, o32_14, Jb.cells, r1, r2, r3, r4, List.length_map, Jb.right, rng, h1_, Int.not_lt.2 h1_, h2_, Int.not_lt.2 h2_, h3_, Int.not_lt.2 h3_, h4_, Int.not_lt.2 h4_, h5_, h6_, h7_, h8_, Int.not_lt.2 h8_, h9_, Int.not_lt.2 h9_, h10_, Int.not_lt.2 h10_, h11_, Int.not_lt.2 h11_, k1, k1', k2]
                        · have k1' := Int.not_lt.1 k1
                          by_cases g5 : j.kind = 5
                          · have g5' := eq_true g5
                            by_cases k3 : 0 < j.cell
                            · simp only [go_sem, Nat.reduceAdd, Nat.reduceMul, reduceIte, Nat.reduceLeDiff, Int.reduceLE, Int.reduceLT, Int.reduceToNat, c32, o32_1, o32_2, o32_3, o32_4, o32_5, o32_6, o32_7, o32_8, o32_9, o32_10, o32_11, o32_12, o32_13, o32_14, Jb.cells, r1, r2, r3, r4, List.length_map, Jb.right, rng, h1_, Int.not_lt.2 h1_, h2_, Int.not_lt.2 h2_, h3_, Int.not_lt.2 h3_, h4_, Int.not_lt.2 h4_, h5_, h6_, h7_, h8_, Int.not_lt.2 h8_, h9_, Int.not_lt.2 h9_, h10_, Int.not_lt.2 h10_, h11_, Int.not_lt.2 h11_, k1, k1', g5', k3]
                            · simp only [go_sem, Nat.reduceAdd, Nat.reduceMul, reduceIte, Nat.reduceLeDiff, Int.reduceLE, Int.reduceLT, Int.reduceToNat, c32, o32_1, o32_2, o32_3, o32_4, o32_5, o32_6, o32_7, o32_8, o32_9, o32_10, o32_11, o32_12, o32_13, o32_14, Jb.cells, r1, r2, r3, r4, List.length_map, Jb.right, rng, h1_, Int.not_lt.2 h1_, h2_, Int.not_lt.2 h2_, h3_, Int.not_lt.2 h3_, h4_, Int.not_lt.2 h4_, h5_, h6_, h7_, h8_, Int.not_lt.2 h8_, h9_, Int.not_lt.2 h9_, h10_, Int.not_lt.2 h10_, h11_, Int.not_lt.2 h11_, k1, k1', g5', k3]
                          by_cases g1 : j.kind = 1
                          · have g1' := eq_true g1
                            by_cases k3 : 0 < j.cell
                            · by_cases k4 : 0 < j.to
                              · simp only [go_sem, Nat.reduceAdd, Nat.reduceMul, reduceIte, Nat.reduceLeDiff, Int.reduceLE, Int.reduceLT, Int.reduceToNat, c32, o32_1, o32_2, o32_3, o32_4, o32_5, o32_6, o32_7, o32_8, o32_9, o32_10, o32_11, o32_12, o32_13, o32_14, Jb.cells, r1, r2, r3, r4, List.length_map, Jb.right, rng, h1_, Int.not_lt.2 h1_, h2_, Int.not_lt.2 h2_, h3_, Int.not_lt.2 h3_, h4_, Int.not_lt.2 h4_, h5_, h6_, h7_, h8_, Int.not_lt.2 h8_, h9_, Int.not_lt.2 h9_, h10_, Int.not_lt.2 h10_, h11_, Int.not_lt.2 h11_, k1, k1', g5, g1', k3, k4]
                              · simp only [go_sem, Nat.reduceAdd, Nat.reduceMul, reduceIte, Nat.reduceLeDiff, Int.reduceLE, Int.reduceLT, Int.reduceToNat, c32, o32_1, o32_2, o32_3, o32_4, o32_5, o32_6, o32_7, o32_8, o32_9, o32_10, o32_11, o32_12, o32_13, o32_14, Jb.cells, r1, r2, r3, r4, List.length_map, Jb.right, rng, h1_, Int.not_lt.2 h1_, h2_, Int.not_lt.2 h2_, h3_, Int.not_lt.2 h3_, h4_, Int.not_lt.2 h4_, h5_, h6_, h7_, h8_, Int.not_lt.2 h8_, h9_, Int.not_lt.2 h9_, h10_, Int.not_lt.2 h10_, h11_, Int.not_lt.2 h11_, k1, k1', g5, g1', k3, k4]
                            · simp only [go_sem, Nat.reduceAdd, Nat.reduceMul, reduceIte, Nat.reduceLeDiff, Int.reduceLE, Int.reduceLT, Int.reduceToNat, c32, o32_1, o32_2, o32_3, o32_4, o32_5, o32_6, o32_7, o32_8, o32_9, o32_10, o32_11, o32_12, o32_13, o32_14, Jb.cells, r1, r2, r3, r4, List.length_map, Jb.right, rng, h1_, Int.not_lt.2 h1_, h2_, Int.not_lt.2 h2_, h3_, Int.not_lt.2 h3_, h4_, Int.not_lt.2 h4_, h5_, h6_, h7_, h8_, Int.not_lt.2 h8_, h9_, Int.not_lt.2 h9_, h10_, Int.not_lt.2 h10_, h11_, Int.not_lt.2 h11_, k1, k1', g5, g1', k3]
                          by_cases g2 : j.kind = 2
                          · have g2' := eq_true g2
                            by_cases k3 : 0 < j.cell
                            · simp only [go_sem, Nat.reduceAdd, Nat.reduceMul, reduceIte, Nat.reduceLeDiff, Int.reduceLE, Int.reduceLT, Int.reduceToNat, c32, o32_1, o32_2, o32_3, o32_4, o32_5, o32_6, o32_7, o32_8, o32_9, o32_10, o32_11, o32_12, o32_13, o32_14, Jb.cells, r1, r2, r3, r4, List.length_map, Jb.right, rng, h1_, Int.not_lt.2 h1_, h2_, Int.not_lt.2 h2_, h3_, Int.not_lt.2 h3_, h4_, Int.not_lt.2 h4_, h5_, h6_, h7_, h8_, Int.not_lt.2 h8_, h9_, Int.not_lt.2 h9_, h10_, Int.not_lt.2 h10_, h11_, Int.not_lt.2 h11_, k1, k1', g5, g1, g2', k3]
                            · simp only [go_sem, Nat.reduceAdd, Nat.reduceMul, reduceIte, Nat.reduceLeDiff, Int.reduceLE, Int.reduceLT, Int.reduceToNat, c32, o32_1, o32_2, o32_3, o32_4, o32_5, o32_6, o32_7, o32_8, o32_9, o32_10, o32_11, o32_12, o32_13, o32_14, Jb.cells, r1, r2, r3, r4, List.length_map, Jb.right, rng, h1_, Int.not_lt.2 h1_, h2_, Int.not_lt.2 h2_, h3_, Int.not_lt.2 h3_, h4_, Int.not_lt.2 h4_, h5_, h6_, h7_, h8_, Int.not_lt.2 h8_, h9_, Int.not_lt.2 h9_, h10_, Int.not_lt.2 h10_, h11_, Int.not_lt.2 h11_, k1, k1', g5, g1, g2', k3]
                          by_cases g3 : j.kind = 3
                          · have g3' := eq_true g3
                            by_cases k3 : 0 < j.cell
                            · simp only [go_sem, Nat.reduceAdd, Nat.reduceMul, reduceIte, Nat.reduceLeDiff, Int.reduceLE, Int.reduceLT, Int.reduceToNat, c32, o32_1, o32_2, o32_3, o32_4, o32_5, o32_6, o32_7, o32_8, o32_9, o32_10, o32_11, o32_12, o32_13, o32_14, Jb.cells, r1, r2, r3, r4, List.length_map, Jb.right, rng, h1_, Int.not_lt.2 h1_, h2_, Int.not_lt.2 h2_, h3_, Int.not_lt.2 h3_, h4_, Int.not_lt.2 h4_, h5_, h6_, h7_, h8_, Int.not_lt.2 h8_, h9_, Int.not_lt.2 h9_, h10_, Int.not_lt.2 h10_, h11_, Int.not_lt.2 h11_, k1, k1', g5, g1, g2, g3', k3]
                            · simp only [go_sem, Nat.reduceAdd, Nat.reduceMul, reduceIte, Nat.reduceLeDiff, Int.reduceLE, Int.reduceLT, Int.reduceToNat, c32, o32_1, o32_2, o32_3, o32_4, o32_5, o32_6, o32_7, o32_8, o32_9, o32_10, o32_11, o32_12, o32_13, o32_14, Jb.cells, r1, r2, r3, r4, List.length_map, Jb.right, rng, h1_, Int.not_lt.2 h1_, h2_, Int.not_lt.2 h2_, h3_, Int.not_lt.2 h3_, h4_, Int.not_lt.2 h4_, h5_, h6_, h7_, h8_, Int.not_lt.2 h8_, h9_, Int.not_lt.2 h9_, h10_, Int.not_lt.2 h10_, h11_, Int.not_lt.2 h11_, k1, k1', g5, g1, g2, g3', k3]
                          · simp only [go_sem, Nat.reduceAdd, Nat.reduceMul, reduceIte, Nat.reduceLeDiff, Int.reduceLE, Int.reduceLT, Int.reduceToNat, c32, o32_1, o32_2, o32_3, o32_4, o32_5, o32_6, o32_7, o32_8, o32_9, o32_10, o32_11, o32_12, o32_13, o32_14, Jb.cells, r1, r2, r3, r4, List.length_map, Jb.right, rng, h1_, Int.not_lt.2 h1_, h2_, Int.not_lt.2 h2_, h3_, Int.not_lt.2 h3_, h4_, Int.not_lt.2 h4_, h5_, h6_, h7_, h8_, Int.not_lt.2 h8_, h9_, Int.not_lt.2 h9_, h10_, Int.not_lt.2 h10_, h11_, Int.not_lt.2 h11_, k1, k1', g5, g1, g2, g3]
                      · simp only [go_sem, Nat.reduceAdd, Nat.reduceMul, reduceIte, Nat.reduceLeDiff, Int.reduceLE, Int.reduceLT, Int.reduceToNat, c32, o32_1, o32_2, o32_3, o32_4, o32_5, o32_6, o32_7, o32_8, o32_9, o32_10, o32_11, o32_12, o32_13, o32_14, Jb.cells, r1, r2, r3, r4, List.length_map, Jb.right, rng, h1_, Int.not_lt.2 h1_, h2_, Int.not_lt.2 h2_, h3_, Int.not_lt.2 h3_, h4_, Int.not_lt.2 h4_, h5_, h6_, h7_, h8_, Int.not_lt.2 h8_, h9_, Int.not_lt.2 h9_, h10_, Int.not_lt.2 h10_, h11_, Int.not_le.1 h11_]
                    · simp only [go_sem, Nat.reduceAdd, Nat.reduceMul, reduceIte, Nat.reduceLeDiff, Int.reduceLE, Int.reduceLT, Int.reduceToNat, c32, o32_1, o32_2, o32_3, o32_4, o32_5, o32_6, o32_7, o32_8, o32_9, o32_10, o32_11, o32_12, o32_13, o32_14, Jb.cells, r1, r2, r3, r4, List.length_map, Jb.right, rng, h1_, Int.not_lt.2 h1_, h2_, Int.not_lt.2 h2_, h3_, Int.not_lt.2 h3_, h4_, Int.not_lt.2 h4_, h5_, h6_, h7_, h8_, Int.not_lt.2 h8_, h9_, Int.not_lt.2 h9_, h10_, Int.not_le.1 h10_]
                  · simp only [go_sem, Nat.reduceAdd, Nat.reduceMul, reduceIte, Nat.reduceLeDiff, Int.reduceLE, Int.reduceLT, Int.reduceToNat, c32, o32_1, o32_2, o32_3, o32_4, o32_5, o32_6, o32_7, o32_8, o32_9, o32_10, o32_11, o32_12, o32_13, o32_14, Jb.cells, r1, r2, r3, r4, List.length_map, Jb.right, rng, h1_, Int.not_lt.2 h1_, h2_, Int.not_lt.2 h2_, h3_, Int.not_lt.2 h3_, h4_, Int.not_lt.2 h4_, h5_, h6_, h7_, h8_, Int.not_lt.2 h8_, h9_, Int.not_le.1 h9_]
                · simp only [go_sem, Nat.reduceAdd, Nat.reduceMul, reduceIte, Nat.reduceLeDiff, Int.reduceLE, Int.reduceLT, Int.reduceToNat, c32, o32_1, o32_2, o32_3, o32_4, o32_5, o32_6, o32_7, o32_8, o32_9, o32_10, o32_11, o32_12, o32_13, o32_14, Jb.cells, r1, r2, r3, r4, List.length_map, Jb.right, rng, h1_, Int.not_lt.2 h1_, h2_, Int.not_lt.2 h2_, h3_, Int.not_lt.2 h3_, h4_, Int.not_lt.2 h4_, h5_, h6_, h7_, h8_, Int.not_le.1 h8_]
              · simp only [go_sem, Nat.reduceAdd, Nat.reduceMul, reduceIte, Nat.reduceLeDiff, Int.reduceLE, Int.reduceLT, Int.reduceToNat, c32, o32_1, o32_2, o32_3, o32_4, o32_5, o32_6, o32_7, o32_8, o32_9, o32_10, o32_11, o32_12, o32_13, o32_14, Jb.cells, r1, r2, r3, r4, List.length_map, Jb.right, rng, h1_, Int.not_lt.2 h1_, h2_, Int.not_lt.2 h2_, h3_, Int.not_lt.2 h3_, h4_, Int.not_lt.2 h4_, h5_, h6_, h7_]
            · simp only [go_sem, Nat.reduceAdd, Nat.reduceMul, reduceIte, Nat.reduceLeDiff, Int.reduceLE, Int.reduceLT, Int.reduceToNat, c32, o32_1, o32_2, o32_3, o32_4, o32_5, o32_6, o32_7, o32_8, o32_9, o32_10, o32_11, o32_12, o32_13, o32_14, Jb.cells, r1, r2, r3, r4, List.length_map, Jb.right, rng, h1_, Int.not_lt.2 h1_, h2_, Int.not_lt.2 h2_, h3_, Int.not_lt.2 h3_, h4_, Int.not_lt.2 h4_, h5_, h6_]
          · simp only [go_sem, Nat.reduceAdd, Nat.reduceMul, reduceIte, Nat.reduceLeDiff, Int.reduceLE, Int.reduceLT, Int.reduceToNat, c32, o32_1, o32_2, o32_3, o32_4, o32_5, o32_6, o32_7, o32_8, o32_9, o32_10, o32_11, o32_12, o32_13, o32_14, Jb.cells, r1, r2, r3, r4, List.length_map, Jb.right, rng, h1_, Int.not_lt.2 h1_, h2_, Int.not_lt.2 h2_, h3_, Int.not_lt.2 h3_, h4_, Int.not_lt.2 h4_, h5_]
        · simp only [go_sem, Nat.reduceAdd, Nat.reduceMul, reduceIte, Nat.reduceLeDiff, Int.reduceLE, Int.reduceLT, Int.reduceToNat, c32, o32_1, o32_2, o32_3, o32_4, o32_5, o32_6, o32_7, o32_8, o32_9, o32_10, o32_11, o32_12, o32_13, o32_14, Jb.cells, r1, r2, r3, r4, List.length_map, Jb.right, rng, h1_, Int.not_lt.2 h1_, h2_, Int.not_lt.2 h2_, h3_, Int.not_lt.2 h3_, h4_, Int.not_le.1 h4_]
      · simp only [go_sem, Nat.reduceAdd, Nat.reduceMul, reduceIte, Nat.reduceLeDiff, Int.reduceLE, Int.reduceLT, Int.reduceToNat, c32, o32_1, o32_2, o32_3, o32_4, o32_5, o32_6, o32_7, o32_8, o32_9, o32_10, o32_11, o32_12, o32_13, o32_14, Jb.cells, r1, r2, r3, r4, List.length_map, Jb.right, rng, h1_, Int.not_lt.2 h1_, h2_, Int.not_lt.2 h2_, h3_, Int.not_le.1 h3_]
    · simp only [go_sem, Nat.reduceAdd, Nat.reduceMul, reduceIte, Nat.reduceLeDiff, Int.reduceLE, Int.reduceLT, Int.reduceToNat, c32, o32_1, o32_2, o32_3, o32_4, o32_5, o32_6, o32_7, o32_8, o32_9, o32_10, o32_11, o32_12, o32_13, o32_14, Jb.cells, r1, r2, r3, r4, List.length_map, Jb.right, rng, h1_, Int.not_lt.2 h1_, h2_, Int.not_le.1 h2_]
  · simp only [go_sem, Nat.reduceAdd, Nat.reduceMul, reduceIte, Nat.reduceLeDiff, Int.reduceLE, Int.reduceLT, Int.reduceToNat, c32, o32_1, o32_2, o32_3, o32_4, o32_5, o32_6, o32_7, o32_8, o32_9, o32_10, o32_11, o32_12, o32_13, o32_14, Jb.cells, r1, r2, r3, r4, List.length_map, Jb.right, rng, h1_, Int.not_le.1 h1_]
end Go.Proofs.YtefoleocbhkobaaGreatDoor
namespace Go.Proofs.YtefoleocbhkobaaGreatDoor
open Go Go.Ev
set_option linter.unusedSectionVars false
set_option linter.unusedSimpArgs false
set_option linter.unusedVariables false
def JobEnds (j : Jb) (v : Bool) : Ex → Env → Heap → Prop := fun ex e h =>
  if v then ex = .exit 0 ∧ getT e 1 = .ptr 100001 0 ∧ hget h 100001 = some (.box j.cells) else ex = .ret ∧ getT e 2 = .bool false
theorem loop39 {n : Nat} (j : Jb) (hl : j.wait.length ≤ 1000000000) : ∀ (rest pre : List Int) (m : Nat) (env : Env) (H : Heap), j.wait = pre ++ rest → rest.length + 1 ≤ m →
    evGh (.keep [1, 3] [100001]) env H = some ([(1, .ptr 100001 0), (3, .int .i64 pre.length)], [(100001, .box j.cells)]) →
    Ends (iter m (evCode ⟨run tab prim glob (n + 1), glob⟩ (iter (n + 1)) b39_1) env H) (JobEnds j (allFrom 0 rest))
  | [], pre, m + 1, env, H, hp, hm, hk => by
    have e1 : pre.length = j.wait.length := by rw [hp]; simp
    rw [iter_step]
    generalize iter m (evCode ⟨run tab prim glob (n + 1), glob⟩ (iter (n + 1)) b39_1) = g
    simp only [Jb.cells] at hk
    simp only [b39_1, ob39_1_1, ob39_1_2, ob39_1_3, ob39_1_4, hk, go_sem, Nat.reduceAdd, Nat.reduceMul, reduceIte, Nat.reduceLeDiff, Int.reduceLE, Int.reduceLT, Int.reduceToNat, e1, List.length_map, Int.lt_irrefl, afterIt]
    exact Ends.of ⟨rfl, rfl, rfl⟩
  | x :: rest, pre, m + 1, env, H, hp, hm, hk => by
    have e0 : pre.length < j.wait.length := by rw [hp]; simp
    have e1 : (pre.length : Int) < (j.wait.length : Int) := by omega
    have e2 : (0 : Int) ≤ (pre.length : Int) := by omega
    have e3 : (j.wait.map rowI)[pre.length]? = some [.int .i64 x] := by rw [hp]; simp [rowI]
    have e4 : IntKind.i64.wrap ((pre.length : Int) + 1) = ((pre.length + 1 : Nat) : Int) := cast_add (by omega)
    have hr := fits_ok (N := n + 1) (by omega) x
    have ih := loop39 (n := n) j hl rest (pre ++ [x]) m
    rw [iter_step]
    generalize iter m (evCode ⟨run tab prim glob (n + 1), glob⟩ (iter (n + 1)) b39_1) = g at ih ⊢
    have hall : allFrom 0 (x :: rest) = (rng 0 1099511627776 x && allFrom 0 rest) := rfl
    simp only [Jb.cells] at hk ih
    cases k1 : rng 0 1099511627776 x
    · rw [k1] at hr
      simp only [b39_1, ob39_1_1, ob39_1_2, ob39_1_3, ob39_1_4, hk, go_sem, Nat.reduceAdd, Nat.reduceMul, reduceIte, Nat.reduceLeDiff, Int.reduceLE, Int.reduceLT, Int.reduceToNat, e1, e2, e3, e4, hr, List.length_map, afterIt, hall, k1]
      exact Ends.of ⟨rfl, rfl⟩
    · rw [k1] at hr
      simp only [b39_1, ob39_1_1, ob39_1_2, ob39_1_3, ob39_1_4, hk, go_sem, Nat.reduceAdd, Nat.reduceMul, reduceIte, Nat.reduceLeDiff, Int.reduceLE, Int.reduceLT, Int.reduceToNat, e1, e2, e3, e4, hr, List.length_map, afterIt, hall, k1]
      refine ih _ _ (by rw [hp]; simp) (by simp at hm; omega) ?_
      rw [List.length_append]; rfl
def Jb.right39 (j : Jb) : Bool :=
  rng 0 5 j.kind && rng 0 7 j.step && rng 0 1099511627776 j.id && rng 0 1099511627776 j.shard && rng 0 1099511627776 j.other && rng 0 1099511627776 j.epoch && rng 0 1099511627776 j.part && rng 0 1099511627776 j.client && rng 0 1099511627776 j.req &&
  j.tm.right && allFrom 0 j.wait && (rng 0 3 j.cell && rng 0 3 j.to && (decide ((j.members.length : Int) ≤ 0) || stores j.members)) &&
  (!(decide (j.kind = 5) && decide ((j.members.length : Int) = 0)) && !(decide (j.kind = 1) && decide (j.to = 0)) && (decide (j.kind = 0) || decide (j.kind = 4) || decide (0 < j.cell)))
theorem right_same (j : Jb) : j.right39 = j.right := by
  unfold Jb.right39 Jb.right Jb.nums
  generalize allFrom 0 j.wait = A
  generalize j.tm.right = T
  generalize stores j.members = S
  have hM : 0 ≤ (j.members.length : Int) := by omega
  generalize (j.members.length : Int) = M at hM ⊢
  rw [Bool.eq_iff_iff]
  simp only [Bool.and_eq_true, Bool.or_eq_true, Bool.not_eq_true', Bool.and_eq_false_iff, decide_eq_true_eq, decide_eq_false_iff_not, rng]
  cases A
  · simp
  cases T
  · simp
  cases S
  all_goals
    by_cases g5 : j.kind = 5
    · simp [g5]; omega
    by_cases g1 : j.kind = 1
    · simp [g1]; omega
    by_cases g2 : j.kind = 2
    · simp [g2]; omega
    by_cases g3 : j.kind = 3
    · simp [g3]; omega
    · simp [g5, g1, g2, g3]; omega
set_option maxRecDepth 100000 in
set_option maxHeartbeats 16000000 in
theorem job19_ok {N : Nat} (j : Jb) (h1 : j.wait.length ≤ 1000000000) (h2 : j.members.length ≤ 1000000000) (hN : j.wait.length + j.members.length + 40 ≤ N) : run tab prim glob N 39 [.agg j.cells] = some (.bool j.right, []) := by
  obtain ⟨n, rfl⟩ : ∃ n, N = n + 2 := ⟨N - 2, by omega⟩
  rw [enters (n := n + 1) (fn := c39) rfl, ← right_same]
  have r1 := fun x => fits_ok (N := n + 1) (by omega) x
  have r3 : run tab prim glob (n + 1) 38 [.agg [.int .i64 j.tm.wall, .int .i64 j.tm.tick, .int .i64 j.tm.node]] = some (.bool j.tm.right, []) := stampR05_ok (by omega) j.tm
  have r4 := stores19_ok (N := n + 1) j.members h2 (by omega)
  have hL := fun env H h => loop39 (n := n) j h1 j.wait [] (n + 1) env H rfl (by omega) h
  have em : ((j.members.length : Int) = 0) = ¬ (0 < (j.members.length : Int)) := by rw [eq_iff_iff]; omega
  generalize hg : iter (n + 1) (evCode ⟨run tab prim glob (n + 1), glob⟩ (iter (n + 1)) b39_1) = g at hL
  by_cases h1_ : 0 ≤ j.kind
  · by_cases h2_ : j.kind ≤ 5
    · by_cases h3_ : 0 ≤ j.step
      · by_cases h4_ : j.step ≤ 7
        · by_cases h5_ : rng 0 1099511627776 j.id = true
          · by_cases h6_ : rng 0 1099511627776 j.shard = true
            · by_cases h7_ : rng 0 1099511627776 j.other = true
              · by_cases h8_ : rng 0 1099511627776 j.epoch = true
                · by_cases h9_ : rng 0 1099511627776 j.part = true
                  · by_cases h10_ : rng 0 1099511627776 j.client = true
                    · by_cases h11_ : rng 0 1099511627776 j.req = true
                      · by_cases h12_ : j.tm.right = true
                        · simp only [go_sem, Nat.reduceAdd, Nat.reduceMul, reduceIte, Nat.reduceLeDiff, Int.reduceLE, Int.reduceLT, Int.reduceToNat, c39, o39_1, o39_2, o39_3, o39_4, Jb.cells, r1, r3, r4, List.length_map, Jb.right39, show rng 0 5 j.kind = (decide (0 ≤ j.kind) && decide (j.kind ≤ 5)) from rfl, show rng 0 7 j.step = (decide (0 ≤ j.step) && decide (j.step ≤ 7)) from rfl, h1_, Int.not_lt.2 h1_, h2_, Int.not_lt.2 h2_, h3_, Int.not_lt.2 h3_, h4_, Int.not_lt.2 h4_, h5_, h6_, h7_, h8_, h9_, h10_, h11_, h12_, hg]
                          generalize hE : g _ _ = o
                          obtain ⟨ex, env', H', rfl, h5⟩ := Ends.at hL hE (by rfl)
                          unfold JobEnds at h5
                          cases hw : allFrom 0 j.wait
                          · rw [hw] at h5
                            obtain ⟨rfl, h6⟩ := h5
                            simp only [go_sem, Nat.reduceAdd, Nat.reduceMul, reduceIte, Nat.reduceLeDiff, Int.reduceLE, Int.reduceLT, Int.reduceToNat, c39, o39_1, o39_2, o39_3, o39_4, Jb.cells, r1, r3, r4, List.length_map, Jb.right39, show rng 0 5 j.kind = (decide (0 ≤ j.kind) && decide (j.kind ≤ 5)) from rfl, show rng 0 7 j.step = (decide (0 ≤ j.step) && decide (j.step ≤ 7)) from rfl, h1_, Int.not_lt.2 h1_, h2_, Int.not_lt.2 h2_, h3_, Int.not_lt.2 h3_, h4_, Int.not_lt.2 h4_, h5_, h6_, h7_, h8_, h9_, h10_, h11_, h12_, k39_1, ok39_1_1, ok39_1_2, ok39_1_3, ok39_1_4, ok39_1_5, h6, hw]
                          rw [hw] at h5
                          obtain ⟨rfl, h6, h7⟩ := h5
                          simp only [Jb.cells] at h7
                          have q1 : rng 0 3 j.cell = (decide (0 ≤ j.cell) && decide (j.cell ≤ 3)) := rfl
                          have q2 : rng 0 3 j.to = (decide (0 ≤ j.to) && decide (j.to ≤ 3)) := rfl
                          by_cases p1 : 0 ≤ j.cell
                          case neg => simp only [go_sem, Nat.reduceAdd, Nat.reduceMul, reduceIte, Nat.reduceLeDiff, Int.reduceLE, Int.reduceLT, Int.reduceToNat, c39, o39_1, o39_2, o39_3, o39_4, Jb.cells, r1, r3, r4, List.length_map, Jb.right39, show rng 0 5 j.kind = (decide (0 ≤ j.kind) && decide (j.kind ≤ 5)) from rfl, show rng 0 7 j.step = (decide (0 ≤ j.step) && decide (j.step ≤ 7)) from rfl, h1_, Int.not_lt.2 h1_, h2_, Int.not_lt.2 h2_, h3_, Int.not_lt.2 h3_, h4_, Int.not_lt.2 h4_, h5_, h6_, h7_, h8_, h9_, h10_, h11_, h12_, k39_1, ok39_1_1, ok39_1_2, ok39_1_3, ok39_1_4, ok39_1_5, h6, h7, hw, q1, q2, p1, Int.not_le.1 p1]
                          by_cases p2 : j.cell ≤ 3
                          case neg => simp only [go_sem, Nat.reduceAdd, Nat.reduceMul, reduceIte, Nat.reduceLeDiff, Int.reduceLE, Int.reduceLT, Int.reduceToNat, c39, o39_1, o39_2, o39_3, o39_4, Jb.cells, r1, r3, r4, List.length_map, Jb.right39, show rng 0 5 j.kind = (decide (0 ≤ j.kind) && decide (j.kind ≤ 5)) from rfl, show rng 0 7 j.step = (decide (0 ≤ j.step) && decide (j.step ≤ 7)) from rfl, h1_, Int.not_lt.2 h1_, h2_, Int.not_lt.2 h2_, h3_, Int.not_lt.2 h3_, h4_, Int.not_lt.2 h4_, h5_, h6_, h7_, h8_, h9_, h10_, h11_, h12_, k39_1, ok39_1_1, ok39_1_2, ok39_1_3, ok39_1_4, ok39_1_5, h6, h7, hw, q1, q2, p1, Int.not_lt.2 p1, p2, Int.not_le.1 p2]
                          by_cases p3 : 0 ≤ j.to
                          case neg => simp only [go_sem, Nat.reduceAdd, Nat.reduceMul, reduceIte, Nat.reduceLeDiff, Int.reduceLE, Int.reduceLT, Int.reduceToNat, c39, o39_1, o39_2, o39_3, o39_4, Jb.cells, r1, r3, r4, List.length_map, Jb.right39, show rng 0 5 j.kind = (decide (0 ≤ j.kind) && decide (j.kind ≤ 5)) from rfl, show rng 0 7 j.step = (decide (0 ≤ j.step) && decide (j.step ≤ 7)) from rfl, h1_, Int.not_lt.2 h1_, h2_, Int.not_lt.2 h2_, h3_, Int.not_lt.2 h3_, h4_, Int.not_lt.2 h4_, h5_, h6_, h7_, h8_, h9_, h10_, h11_, h12_, k39_1, ok39_1_1, ok39_1_2, ok39_1_3, ok39_1_4, ok39_1_5, h6, h7, hw, q1, q2, p1, Int.not_lt.2 p1, p2, Int.not_lt.2 p2, p3, Int.not_le.1 p3]
                          by_cases p4 : j.to ≤ 3
                          case neg => simp only [go_sem, Nat.reduceAdd, Nat.reduceMul, reduceIte, Nat.reduceLeDiff, Int.reduceLE, Int.reduceLT, Int.reduceToNat, c39, o39_1, o39_2, o39_3, o39_4, Jb.cells, r1, r3, r4, List.length_map, Jb.right39, show rng 0 5 j.kind = (decide (0 ≤ j.kind) && decide (j.kind ≤ 5)) from rfl, show rng 0 7 j.step = (decide (0 ≤ j.step) && decide (j.step ≤ 7)) from rfl, h1_, Int.not_lt.2 h1_, h2_, Int.not_lt.2 h2_, h3_, Int.not_lt.2 h3_, h4_, Int.not_lt.2 h4_, h5_, h6_, h7_, h8_, h9_, h10_, h11_, h12_, k39_1, ok39_1_1, ok39_1_2, ok39_1_3, ok39_1_4, ok39_1_5, h6, h7, hw, q1, q2, p1, Int.not_lt.2 p1, p2, Int.not_lt.2 p2, p3, Int.not_lt.2 p3, p4, Int.not_le.1 p4]
                          have p1' := Int.not_lt.2 p1
                          have p2' := Int.not_lt.2 p2
                          have p3' := Int.not_lt.2 p3
                          have p4' := Int.not_lt.2 p4
                          have t1 : j.kind = 5 ∨ j.kind = 1 ∨ j.kind = 0 ∨ j.kind = 4 ∨ j.kind = 2 ∨ j.kind = 3 := by omega
                          have d51 : ((5 : Int) = 1) = False := by decide
                          have d50 : ((5 : Int) = 0) = False := by decide
                          have d54 : ((5 : Int) = 4) = False := by decide
                          have d15 : ((1 : Int) = 5) = False := by decide
                          have d10 : ((1 : Int) = 0) = False := by decide
                          have d14 : ((1 : Int) = 4) = False := by decide
                          have d05 : ((0 : Int) = 5) = False := by decide
                          have d01 : ((0 : Int) = 1) = False := by decide
                          have d45 : ((4 : Int) = 5) = False := by decide
                          have d41 : ((4 : Int) = 1) = False := by decide
                          have d40 : ((4 : Int) = 0) = False := by decide
                          have d25 : ((2 : Int) = 5) = False := by decide
                          have d21 : ((2 : Int) = 1) = False := by decide
                          have d20 : ((2 : Int) = 0) = False := by decide
                          have d24 : ((2 : Int) = 4) = False := by decide
                          have d35 : ((3 : Int) = 5) = False := by decide
                          have d31 : ((3 : Int) = 1) = False := by decide
                          have d30 : ((3 : Int) = 0) = False := by decide
                          have d34 : ((3 : Int) = 4) = False := by decide
                          by_cases k1 : 0 < (j.members.length : Int)
                          · have k1' := Int.not_le.2 k1
                            by_cases k2 : stores j.members = true
                            case neg => simp only [go_sem, Nat.reduceAdd, Nat.reduceMul, reduceIte, Nat.reduceLeDiff, Int.reduceLE, Int.reduceLT, Int.reduceToNat, c39, o39_1, o39_2, o39_3, o39_4, Jb.cells, r1, r3, r4, List.length_map, Jb.right39, show rng 0 5 j.kind = (decide (0 ≤ j.kind) && decide (j.kind ≤ 5)) from rfl, show rng 0 7 j.step = (decide (0 ≤ j.step) && decide (j.step ≤ 7)) from rfl, h1_, Int.not_lt.2 h1_, h2_, Int.not_lt.2 h2_, h3_, Int.not_lt.2 h3_, h4_, Int.not_lt.2 h4_, h5_, h6_, h7_, h8_, h9_, h10_, h11_, h12_, k39_1, ok39_1_1, ok39_1_2, ok39_1_3, ok39_1_4, ok39_1_5, h6, h7, hw, q1, q2, p1, p1', p2, p2', p3, p3', p4, p4', em, k1, k1', k2]
                            by_cases k3 : 0 < j.cell
                            · by_cases k4 : j.to = 0
                              · have k4' := eq_true k4
                                rcases t1 with t | t | t | t | t | t <;> simp only [go_sem, Nat.reduceAdd, Nat.reduceMul, reduceIte, Nat.reduceLeDiff, Int.reduceLE, Int.reduceLT, Int.reduceToNat, c39, o39_1, o39_2, o39_3, o39_4, Jb.cells, r1, r3, r4, List.length_map, Jb.right39, show rng 0 5 j.kind = (decide (0 ≤ j.kind) && decide (j.kind ≤ 5)) from rfl, show rng 0 7 j.step = (decide (0 ≤ j.step) && decide (j.step ≤ 7)) from rfl, h1_, Int.not_lt.2 h1_, h2_, Int.not_lt.2 h2_, h3_, Int.not_lt.2 h3_, h4_, Int.not_lt.2 h4_, h5_, h6_, h7_, h8_, h9_, h10_, h11_, h12_, k39_1, ok39_1_1, ok39_1_2, ok39_1_3, ok39_1_4, ok39_1_5, h6, h7, hw, q1, q2, p1, p1', p2, p2', p3, p3', p4, p4', em, k1, k1', k2, k3, k4', not_true, t, d51, d50, d54, d15, d10, d14, d05, d01, d45, d41, d40, d25, d21, d20, d24, d35, d31, d30, d34]
                              · rcases t1 with t | t | t | t | t | t <;> simp only [go_sem, Nat.reduceAdd, Nat.reduceMul, reduceIte, Nat.reduceLeDiff, Int.reduceLE, Int.reduceLT, Int.reduceToNat, c39, o39_1, o39_2, o39_3, o39_4, Jb.cells, r1, r3, r4, List.length_map, Jb.right39, show rng 0 5 j.kind = (decide (0 ≤ j.kind) && decide (j.kind ≤ 5)) from rfl, show rng 0 7 j.step = (decide (0 ≤ j.step) && decide (j.step ≤ 7)) from rfl, h1_, Int.not_lt.2 h1_, h2_, Int.not_lt.2 h2_, h3_, Int.not_lt.2 h3_, h4_, Int.not_lt.2 h4_, h5_, h6_, h7_, h8_, h9_, h10_, h11_, h12_, k39_1, ok39_1_1, ok39_1_2, ok39_1_3, ok39_1_4, ok39_1_5, h6, h7, hw, q1, q2, p1, p1', p2, p2', p3, p3', p4, p4', em, k1, k1', k2, k3, k4, not_true, t, d51, d50, d54, d15, d10, d14, d05, d01, d45, d41, d40, d25, d21, d20, d24, d35, d31, d30, d34]
                            · by_cases k4 : j.to = 0
                              · have k4' := eq_true k4
                                rcases t1 with t | t | t | t | t | t <;> simp only [go_sem, Nat.reduceAdd, Nat.reduceMul, reduceIte, Nat.reduceLeDiff, Int.reduceLE, Int.reduceLT, Int.reduceToNat, c39, o39_1, o39_2, o39_3, o39_4, Jb.cells, r1, r3, r4, List.length_map, Jb.right39, show rng 0 5 j.kind = (decide (0 ≤ j.kind) && decide (j.kind ≤ 5)) from rfl, show rng 0 7 j.step = (decide (0 ≤ j.step) && decide (j.step ≤ 7)) from rfl, h1_, Int.not_lt.2 h1_, h2_, Int.not_lt.2 h2_, h3_, Int.not_lt.2 h3_, h4_, Int.not_lt.2 h4_, h5_, h6_, h7_, h8_, h9_, h10_, h11_, h12_, k39_1, ok39_1_1, ok39_1_2, ok39_1_3, ok39_1_4, ok39_1_5, h6, h7, hw, q1, q2, p1, p1', p2, p2', p3, p3', p4, p4', em, k1, k1', k2, k3, k4', not_true, t, d51, d50, d54, d15, d10, d14, d05, d01, d45, d41, d40, d25, d21, d20, d24, d35, d31, d30, d34]
                              · rcases t1 with t | t | t | t | t | t <;> simp only [go_sem, Nat.reduceAdd, Nat.reduceMul, reduceIte, Nat.reduceLeDiff, Int.reduceLE, Int.reduceLT, Int.reduceToNat, c39, o39_1, o39_2, o39_3, o39_4, Jb.cells, r1, r3, r4, List.length_map, Jb.right39, show rng 0 5 j.kind = (decide (0 ≤ j.kind) && decide (j.kind ≤ 5)) from rfl, show rng 0 7 j.step = (decide (0 ≤ j.step) && decide (j.step ≤ 7)) from rfl, h1_, Int.not_lt.2 h1_, h2_, Int.not_lt.2 h2_, h3_, Int.not_lt.2 h3_, h4_, Int.not_lt.2 h4_, h5_, h6_, h7_, h8_, h9_, h10_, h11_, h12_, k39_1, ok39_1_1, ok39_1_2, ok39_1_3, ok39_1_4, ok39_1_5, h6, h7, hw, q1, q2, p1, p1', p2, p2', p3, p3', p4, p4', em, k1, k1', k2, k3, k4, not_true, t, d51, d50, d54, d15, d10, d14, d05, d01, d45, d41, d40, d25, d21, d20, d24, d35, d31, d30, d34]
                          · have k1' := Int.not_lt.1 k1
                            by_cases k3 : 0 < j.cell
                            · by_cases k4 : j.to = 0
                              · have k4' := eq_true k4
                                rcases t1 with t | t | t | t | t | t <;> simp only [go_sem, Nat.reduceAdd, Nat.reduceMul, reduceIte, Nat.reduceLeDiff, Int.reduceLE, Int.reduceLT, Int.reduceToNat, c39, o39_1, o39_2, o39_3, o39_4, Jb.cells, r1, r3, r4, List.length_map, Jb.right39, show rng 0 5 j.kind = (decide (0 ≤ j.kind) && decide (j.kind ≤ 5)) from rfl, show rng 0 7 j.step = (decide (0 ≤ j.step) && decide (j.step ≤ 7)) from rfl, h1_, Int.not_lt.2 h1_, h2_, Int.not_lt.2 h2_, h3_, Int.not_lt.2 h3_, h4_, Int.not_lt.2 h4_, h5_, h6_, h7_, h8_, h9_, h10_, h11_, h12_, k39_1, ok39_1_1, ok39_1_2, ok39_1_3, ok39_1_4, ok39_1_5, h6, h7, hw, q1, q2, p1, p1', p2, p2', p3, p3', p4, p4', em, k1, k1', k3, k4', not_false_iff, t, d51, d50, d54, d15, d10, d14, d05, d01, d45, d41, d40, d25, d21, d20, d24, d35, d31, d30, d34]
                              · rcases t1 with t | t | t | t | t | t <;> simp only [go_sem, Nat.reduceAdd, Nat.reduceMul, reduceIte, Nat.reduceLeDiff, Int.reduceLE, Int.reduceLT, Int.reduceToNat, c39, o39_1, o39_2, o39_3, o39_4, Jb.cells, r1, r3, r4, List.length_map, Jb.right39, show rng 0 5 j.kind = (decide (0 ≤ j.kind) && decide (j.kind ≤ 5)) from rfl, show rng 0 7 j.step = (decide (0 ≤ j.step) && decide (j.step ≤ 7)) from rfl, h1_, Int.not_lt.2 h1_, h2_, Int.not_lt.2 h2_, h3_, Int.not_lt.2 h3_, h4_, Int.not_lt.2 h4_, h5_, h6_, h7_, h8_, h9_, h10_, h11_, h12_, k39_1, ok39_1_1, ok39_1_2, ok39_1_3, ok39_1_4, ok39_1_5, h6, h7, hw, q1, q2, p1, p1', p2, p2', p3, p3', p4, p4', em, k1, k1', k3, k4, not_false_iff, t, d51, d50, d54, d15, d10, d14, d05, d01, d45, d41, d40, d25, d21, d20, d24, d35, d31, d30, d34]
                            · by_cases k4 : j.to = 0
                              · have k4' := eq_true k4
                                rcases t1 with t | t | t | t | t | t <;> simp only [go_sem, Nat.reduceAdd, Nat.reduceMul, reduceIte, Nat.reduceLeDiff, Int.reduceLE, Int.reduceLT, Int.reduceToNat, c39, o39_1, o39_2, o39_3, o39_4, Jb.cells, r1, r3, r4, List.length_map, Jb.right39, show rng 0 5 j.kind = (decide (0 ≤ j.kind) && decide (j.kind ≤ 5)) from rfl, show rng 0 7 j.step = (decide (0 ≤ j.step) && decide (j.step ≤ 7)) from rfl, h1_, Int.not_lt.2 h1_, h2_, Int.not_lt.2 h2_, h3_, Int.not_lt.2 h3_, h4_, Int.not_lt.2 h4_, h5_, h6_, h7_, h8_, h9_, h10_, h11_, h12_, k39_1, ok39_1_1, ok39_1_2, ok39_1_3, ok39_1_4, ok39_1_5, h6, h7, hw, q1, q2, p1, p1', p2, p2', p3, p3', p4, p4', em, k1, k1', k3, k4', not_false_iff, t, d51, d50, d54, d15, d10, d14, d05, d01, d45, d41, d40, d25, d21, d20, d24, d35, d31, d30, d34]
                              · rcases t1 with t | t | t | t | t | t <;> simp only [go_sem, Nat.reduceAdd, Nat.reduceMul, reduceIte, Nat.reduceLeDiff, Int.reduceLE, Int.reduceLT, Int.reduceToNat, c39, o39_1, o39_2, o39_3, o39_4, Jb.cells, r1, r3, r4, List.length_map, Jb.right39, show rng 0 5 j.kind = (decide (0 ≤ j.kind) && decide (j.kind ≤ 5)) from rfl, show rng 0 7 j.step = (decide (0 ≤ j.step) && decide (j.step ≤ 7)) from rfl, h1_, Int.not_lt.2 h1_, h2_, Int.not_lt.2 h2_, h3_, Int.not_lt.2 h3_, h4_, Int.not_lt.2 h4_, h5_, h6_, h7_, h8_, h9_, h10_, h11_, h12_, k39_1, ok39_1_1, ok39_1_2, ok39_1_3, ok39_1_4, ok39_1_5, h6, h7, hw, q1, q2, p1, p1', p2, p2', p3, p3', p4, p4', em, k1, k1', k3, k4, not_false_iff, t, d51, d50, d54, d15, d10, d14, d05, d01, d45, d41, d40, d25, d21, d20, d24, d35, d31, d30, d34]
                        · simp only [go_sem, Nat.reduceAdd, Nat.reduceMul, reduceIte, Nat.reduceLeDiff, Int.reduceLE, Int.reduceLT, Int.reduceToNat, c39, o39_1, o39_2, o39_3, o39_4, Jb.cells, r1, r3, r4, List.length_map, Jb.right39, show rng 0 5 j.kind = (decide (0 ≤ j.kind) && decide (j.kind ≤ 5)) from rfl, show rng 0 7 j.step = (decide (0 ≤ j.step) && decide (j.step ≤ 7)) from rfl, h1_, Int.not_lt.2 h1_, h2_, Int.not_lt.2 h2_, h3_, Int.not_lt.2 h3_, h4_, Int.not_lt.2 h4_, h5_, h6_, h7_, h8_, h9_, h10_, h11_, h12_]
                      · simp only [go_sem, Nat.reduceAdd, Nat.reduceMul, reduceIte, Nat.reduceLeDiff, Int.reduceLE, Int.reduceLT, Int.reduceToNat, c39, o39_1, o39_2, o39_3, o39_4, Jb.cells, r1, r3, r4, List.length_map, Jb.right39, show rng 0 5 j.kind = (decide (0 ≤ j.kind) && decide (j.kind ≤ 5)) from rfl, show rng 0 7 j.step = (decide (0 ≤ j.step) && decide (j.step ≤ 7)) from rfl, h1_, Int.not_lt.2 h1_, h2_, Int.not_lt.2 h2_, h3_, Int.not_lt.2 h3_, h4_, Int.not_lt.2 h4_, h5_, h6_, h7_, h8_, h9_, h10_, h11_]
                    · simp only [go_sem, Nat.reduceAdd, Nat.reduceMul, reduceIte, Nat.reduceLeDiff, Int.reduceLE, Int.reduceLT, Int.reduceToNat, c39, o39_1, o39_2, o39_3, o39_4, Jb.cells, r1, r3, r4, List.length_map, Jb.right39, show rng 0 5 j.kind = (decide (0 ≤ j.kind) && decide (j.kind ≤ 5)) from rfl, show rng 0 7 j.step = (decide (0 ≤ j.step) && decide (j.step ≤ 7)) from rfl, h1_, Int.not_lt.2 h1_, h2_, Int.not_lt.2 h2_, h3_, Int.not_lt.2 h3_, h4_, Int.not_lt.2 h4_, h5_, h6_, h7_, h8_, h9_, h10_]
                  · simp only [go_sem, Nat.reduceAdd, Nat.reduceMul, reduceIte, Nat.reduceLeDiff, Int.reduceLE, Int.reduceLT, Int.reduceToNat, c39, o39_1, o39_2, o39_3, o39_4, Jb.cells, r1, r3, r4, List.length_map, Jb.right39, show rng 0 5 j.kind = (decide (0 ≤ j.kind) && decide (j.kind ≤ 5)) from rfl, show rng 0 7 j.step = (decide (0 ≤ j.step) && decide (j.step ≤ 7)) from rfl, h1_, Int.not_lt.2 h1_, h2_, Int.not_lt.2 h2_, h3_, Int.not_lt.2 h3_, h4_, Int.not_lt.2 h4_, h5_, h6_, h7_, h8_, h9_]
                · simp only [go_sem, Nat.reduceAdd, Nat.reduceMul, reduceIte, Nat.reduceLeDiff, Int.reduceLE, Int.reduceLT, Int.reduceToNat, c39, o39_1, o39_2, o39_3, o39_4, Jb.cells, r1, r3, r4, List.length_map, Jb.right39, show rng 0 5 j.kind = (decide (0 ≤ j.kind) && decide (j.kind ≤ 5)) from rfl, show rng 0 7 j.step = (decide (0 ≤ j.step) && decide (j.step ≤ 7)) from rfl, h1_, Int.not_lt.2 h1_, h2_, Int.not_lt.2 h2_, h3_, Int.not_lt.2 h3_, h4_, Int.not_lt.2 h4_, h5_, h6_, h7_, h8_]
              · simp only [go_sem, Nat.reduceAdd, Nat.reduceMul, reduceIte, Nat.reduceLeDiff, Int.reduceLE, Int.reduceLT, Int.reduceToNat, c39, o39_1, o39_2, o39_3, o39_4, Jb.cells, r1, r3, r4, List.length_map, Jb.right39, show rng 0 5 j.kind = (decide (0 ≤ j.kind) && decide (j.kind ≤ 5)) from rfl, show rng 0 7 j.step = (decide (0 ≤ j.step) && decide (j.step ≤ 7)) from rfl, h1_, Int.not_lt.2 h1_, h2_, Int.not_lt.2 h2_, h3_, Int.not_lt.2 h3_, h4_, Int.not_lt.2 h4_, h5_, h6_, h7_]
            · simp only [go_sem, Nat.reduceAdd, Nat.reduceMul, reduceIte, Nat.reduceLeDiff, Int.reduceLE, Int.reduceLT, Int.reduceToNat, c39, o39_1, o39_2, o39_3, o39_4, Jb.cells, r1, r3, r4, List.length_map, Jb.right39, show rng 0 5 j.kind = (decide (0 ≤ j.kind) && decide (j.kind ≤ 5)) from rfl, show rng 0 7 j.step = (decide (0 ≤ j.step) && decide (j.step ≤ 7)) from rfl, h1_, Int.not_lt.2 h1_, h2_, Int.not_lt.2 h2_, h3_, Int.not_lt.2 h3_, h4_, Int.not_lt.2 h4_, h5_, h6_]
          · simp only [go_sem, Nat.reduceAdd, Nat.reduceMul, reduceIte, Nat.reduceLeDiff, Int.reduceLE, Int.reduceLT, Int.reduceToNat, c39, o39_1, o39_2, o39_3, o39_4, Jb.cells, r1, r3, r4, List.length_map, Jb.right39, show rng 0 5 j.kind = (decide (0 ≤ j.kind) && decide (j.kind ≤ 5)) from rfl, show rng 0 7 j.step = (decide (0 ≤ j.step) && decide (j.step ≤ 7)) from rfl, h1_, Int.not_lt.2 h1_, h2_, Int.not_lt.2 h2_, h3_, Int.not_lt.2 h3_, h4_, Int.not_lt.2 h4_, h5_]
        · simp only [go_sem, Nat.reduceAdd, Nat.reduceMul, reduceIte, Nat.reduceLeDiff, Int.reduceLE, Int.reduceLT, Int.reduceToNat, c39, o39_1, o39_2, o39_3, o39_4, Jb.cells, r1, r3, r4, List.length_map, Jb.right39, show rng 0 5 j.kind = (decide (0 ≤ j.kind) && decide (j.kind ≤ 5)) from rfl, show rng 0 7 j.step = (decide (0 ≤ j.step) && decide (j.step ≤ 7)) from rfl, h1_, Int.not_lt.2 h1_, h2_, Int.not_lt.2 h2_, h3_, Int.not_lt.2 h3_, h4_, Int.not_le.1 h4_]
      · simp only [go_sem, Nat.reduceAdd, Nat.reduceMul, reduceIte, Nat.reduceLeDiff, Int.reduceLE, Int.reduceLT, Int.reduceToNat, c39, o39_1, o39_2, o39_3, o39_4, Jb.cells, r1, r3, r4, List.length_map, Jb.right39, show rng 0 5 j.kind = (decide (0 ≤ j.kind) && decide (j.kind ≤ 5)) from rfl, show rng 0 7 j.step = (decide (0 ≤ j.step) && decide (j.step ≤ 7)) from rfl, h1_, Int.not_lt.2 h1_, h2_, Int.not_lt.2 h2_, h3_, Int.not_le.1 h3_]
    · simp only [go_sem, Nat.reduceAdd, Nat.reduceMul, reduceIte, Nat.reduceLeDiff, Int.reduceLE, Int.reduceLT, Int.reduceToNat, c39, o39_1, o39_2, o39_3, o39_4, Jb.cells, r1, r3, r4, List.length_map, Jb.right39, show rng 0 5 j.kind = (decide (0 ≤ j.kind) && decide (j.kind ≤ 5)) from rfl, show rng 0 7 j.step = (decide (0 ≤ j.step) && decide (j.step ≤ 7)) from rfl, h1_, Int.not_lt.2 h1_, h2_, Int.not_le.1 h2_]
  · simp only [go_sem, Nat.reduceAdd, Nat.reduceMul, reduceIte, Nat.reduceLeDiff, Int.reduceLE, Int.reduceLT, Int.reduceToNat, c39, o39_1, o39_2, o39_3, o39_4, Jb.cells, r1, r3, r4, List.length_map, Jb.right39, show rng 0 5 j.kind = (decide (0 ≤ j.kind) && decide (j.kind ≤ 5)) from rfl, show rng 0 7 j.step = (decide (0 ≤ j.step) && decide (j.step ≤ 7)) from rfl, h1_, Int.not_le.1 h1_]
end Go.Proofs.YtefoleocbhkobaaGreatDoor
namespace Go.Proofs.YtefoleocbhkobaaGreatDoor
open Go Go.Ev
set_option linter.unusedSectionVars false
set_option linter.unusedSimpArgs false
set_option linter.unusedVariables false
def infRow (p : Inf) : List PV := [.int .i64 p.view, .ro (p.members.map rowI), .bool p.whole]
def smallCells (l : List Inf) : Bool := l.all fun p => decide ((p.members.length : Int) ≤ 40)
theorem loop26 {n : Nat} (l : List Inf) (hl : l.length ≤ 1000000000) : ∀ (rest pre : List Inf) (m : Nat) (env : Env) (H : Heap), l = pre ++ rest → rest.length + 1 ≤ m →
    evGh (.keep [0, 3] []) env H = some ([(0, .ro (l.map infRow)), (3, .int .i64 pre.length)], []) →
    Ends (iter m (evCode ⟨run tab prim glob n, glob⟩ (iter n) b26_1) env H) (fun ex e _ => if smallCells rest then ex = .exit 0 else ex = .ret ∧ getT e 2 = .bool false)
  | [], pre, m + 1, env, H, hp, hm, hk => by
    have e1 : pre.length = l.length := by rw [hp]; simp
    rw [iter_step]
    generalize iter m (evCode ⟨run tab prim glob n, glob⟩ (iter n) b26_1) = g
    simp only [b26_1, ob26_1_1, ob26_1_2, ob26_1_3, ob26_1_4, hk, go_sem, Nat.reduceAdd, Nat.reduceMul, reduceIte, Nat.reduceLeDiff, Int.reduceLE, Int.reduceLT, Int.reduceToNat, e1, List.length_map, Int.lt_irrefl, afterIt]
    exact Ends.of rfl
  | x :: rest, pre, m + 1, env, H, hp, hm, hk => by
    have e0 : pre.length < l.length := by rw [hp]; simp
    have e1 : (pre.length : Int) < (l.length : Int) := by omega
    have e2 : (0 : Int) ≤ (pre.length : Int) := by omega
    have e3 : (l.map infRow)[pre.length]? = some [.int .i64 x.view, .ro (x.members.map rowI), .bool x.whole] := by rw [hp]; simp [infRow]
    have e4 : IntKind.i64.wrap ((pre.length : Int) + 1) = ((pre.length + 1 : Nat) : Int) := cast_add (by omega)
    have ih := loop26 (n := n) l hl rest (pre ++ [x]) m
    have hs : smallCells (x :: rest) = (decide ((x.members.length : Int) ≤ 40) && smallCells rest) := rfl
    rw [hs]
    rw [iter_step]
    generalize iter m (evCode ⟨run tab prim glob n, glob⟩ (iter n) b26_1) = g at ih ⊢
    by_cases k1 : (x.members.length : Int) ≤ 40
    · have k2 : ¬ 40 < (x.members.length : Int) := by omega
      simp only [b26_1, ob26_1_1, ob26_1_2, ob26_1_3, ob26_1_4, hk, go_sem, Nat.reduceAdd, Nat.reduceMul, reduceIte, Nat.reduceLeDiff, Int.reduceLE, Int.reduceLT, Int.reduceToNat, e1, e2, e3, e4, List.length_map, afterIt, k1, k2]
      refine ih _ _ (by rw [hp]; simp) (by simp at hm; omega) ?_
      rw [List.length_append]; rfl
    · have k2 : 40 < (x.members.length : Int) := by omega
      simp only [b26_1, ob26_1_1, ob26_1_2, ob26_1_3, ob26_1_4, hk, go_sem, Nat.reduceAdd, Nat.reduceMul, reduceIte, Nat.reduceLeDiff, Int.reduceLE, Int.reduceLT, Int.reduceToNat, e1, e2, e3, e4, List.length_map, afterIt, k1, k2]
      exact Ends.of ⟨rfl, rfl⟩
theorem smallCells_ok {N : Nat} (l : List Inf) (hl : l.length ≤ 1000000000) (hN : l.length + 4 ≤ N) : run tab prim glob N 26 [.ro (l.map infRow)] = some (.bool (smallCells l), []) := by
  obtain ⟨n, rfl⟩ : ∃ n, N = n + 1 := ⟨N - 1, by omega⟩
  rw [enters (fn := c26) rfl]
  have hL := fun env H h => loop26 (n := n) l hl l [] n env H rfl (by omega) h
  simp only [c26, o26_1, o26_2, o26_3, go_sem, Nat.reduceAdd, Nat.reduceMul, reduceIte, Nat.reduceLeDiff, Int.reduceLE, Int.reduceLT, Int.reduceToNat]
  generalize iter n (evCode ⟨run tab prim glob n, glob⟩ (iter n) b26_1) = gg at hL ⊢
  generalize hE : gg _ _ = o
  obtain ⟨ex, env', H', rfl, h2⟩ := Ends.at hL hE (by rfl)
  cases hb : smallCells l
  · rw [hb] at h2
    obtain ⟨rfl, h3⟩ := h2
    simp only [go_sem, Nat.reduceAdd, Nat.reduceMul, reduceIte, Nat.reduceLeDiff, Int.reduceLE, Int.reduceLT, Int.reduceToNat, h3]
  · rw [hb] at h2
    simp only [if_true] at h2
    subst h2
    simp only [go_sem, Nat.reduceAdd, Nat.reduceMul, reduceIte, Nat.reduceLeDiff, Int.reduceLE, Int.reduceLT, Int.reduceToNat]
def leRow (p : Le) : List PV := p.cells
def Dr.cellsL (d : Dr) : List PV := [.ro (d.places.map Pl.cells), .ro (d.cells.map infRow), .int .i64 d.next, .ro (d.leases.map Le.cells), .ro (d.lows.map St.cells), .int .i64 d.mark.wall, .int .i64 d.mark.tick, .int .i64 d.mark.node] ++ d.job.cells ++ [.ro (d.opened.map Rw.cells)]
theorem small_ok {N : Nat} (d : Dr) (hl : d.cells.length ≤ 1000000000) (hN : d.cells.length + 6 ≤ N) : ∃ b, run tab prim glob N 8 [.agg d.cellsL] = some (.bool b, []) := by
  obtain ⟨n, rfl⟩ : ∃ n, N = n + 1 := ⟨N - 1, by omega⟩
  rw [enters (fn := c8) rfl]
  have hr := smallCells_ok (N := n) d.cells hl (by omega)
  refine ⟨decide ((d.places.length : Int) ≤ 40) && decide ((d.cells.length : Int) ≤ 40) && decide ((d.lows.length : Int) ≤ 40) && decide ((d.leases.length : Int) ≤ 40) && decide ((d.opened.length : Int) ≤ 40) && decide ((d.job.parts.length : Int) ≤ 2000) &&
    decide ((d.job.wait.length : Int) ≤ 100) && decide ((d.job.members.length : Int) ≤ 40) && smallCells d.cells, ?_⟩
  by_cases h1_ : (d.places.length : Int) ≤ 40
  · by_cases h2_ : (d.cells.length : Int) ≤ 40
    · by_cases h3_ : (d.lows.length : Int) ≤ 40
      · by_cases h4_ : (d.leases.length : Int) ≤ 40
        · by_cases h5_ : (d.opened.length : Int) ≤ 40
          · by_cases h6_ : (d.job.parts.length : Int) ≤ 2000
            · by_cases h7_ : (d.job.wait.length : Int) ≤ 100
              · by_cases h8_ : (d.job.members.length : Int) ≤ 40
                · simp only [go_sem, Nat.reduceAdd, Nat.reduceMul, reduceIte, Nat.reduceLeDiff, Int.reduceLE, Int.reduceLT, Int.reduceToNat, c8, o8_1, o8_2, Dr.cellsL, Jb.cells, hr, List.length_map, h1_, Int.not_lt.2 h1_, h2_, Int.not_lt.2 h2_, h3_, Int.not_lt.2 h3_, h4_, Int.not_lt.2 h4_, h5_, Int.not_lt.2 h5_, h6_, Int.not_lt.2 h6_, h7_, Int.not_lt.2 h7_, h8_, Int.not_lt.2 h8_]
                · simp only [go_sem, Nat.reduceAdd, Nat.reduceMul, reduceIte, Nat.reduceLeDiff, Int.reduceLE, Int.reduceLT, Int.reduceToNat, c8, o8_1, o8_2, Dr.cellsL, Jb.cells, hr, List.length_map, h1_, Int.not_lt.2 h1_, h2_, Int.not_lt.2 h2_, h3_, Int.not_lt.2 h3_, h4_, Int.not_lt.2 h4_, h5_, Int.not_lt.2 h5_, h6_, Int.not_lt.2 h6_, h7_, Int.not_lt.2 h7_, h8_, Int.not_le.1 h8_]
              · simp only [go_sem, Nat.reduceAdd, Nat.reduceMul, reduceIte, Nat.reduceLeDiff, Int.reduceLE, Int.reduceLT, Int.reduceToNat, c8, o8_1, o8_2, Dr.cellsL, Jb.cells, hr, List.length_map, h1_, Int.not_lt.2 h1_, h2_, Int.not_lt.2 h2_, h3_, Int.not_lt.2 h3_, h4_, Int.not_lt.2 h4_, h5_, Int.not_lt.2 h5_, h6_, Int.not_lt.2 h6_, h7_, Int.not_le.1 h7_]
            · simp only [go_sem, Nat.reduceAdd, Nat.reduceMul, reduceIte, Nat.reduceLeDiff, Int.reduceLE, Int.reduceLT, Int.reduceToNat, c8, o8_1, o8_2, Dr.cellsL, Jb.cells, hr, List.length_map, h1_, Int.not_lt.2 h1_, h2_, Int.not_lt.2 h2_, h3_, Int.not_lt.2 h3_, h4_, Int.not_lt.2 h4_, h5_, Int.not_lt.2 h5_, h6_, Int.not_le.1 h6_]
          · simp only [go_sem, Nat.reduceAdd, Nat.reduceMul, reduceIte, Nat.reduceLeDiff, Int.reduceLE, Int.reduceLT, Int.reduceToNat, c8, o8_1, o8_2, Dr.cellsL, Jb.cells, hr, List.length_map, h1_, Int.not_lt.2 h1_, h2_, Int.not_lt.2 h2_, h3_, Int.not_lt.2 h3_, h4_, Int.not_lt.2 h4_, h5_, Int.not_le.1 h5_]
        · simp only [go_sem, Nat.reduceAdd, Nat.reduceMul, reduceIte, Nat.reduceLeDiff, Int.reduceLE, Int.reduceLT, Int.reduceToNat, c8, o8_1, o8_2, Dr.cellsL, Jb.cells, hr, List.length_map, h1_, Int.not_lt.2 h1_, h2_, Int.not_lt.2 h2_, h3_, Int.not_lt.2 h3_, h4_, Int.not_le.1 h4_]
      · simp only [go_sem, Nat.reduceAdd, Nat.reduceMul, reduceIte, Nat.reduceLeDiff, Int.reduceLE, Int.reduceLT, Int.reduceToNat, c8, o8_1, o8_2, Dr.cellsL, Jb.cells, hr, List.length_map, h1_, Int.not_lt.2 h1_, h2_, Int.not_lt.2 h2_, h3_, Int.not_le.1 h3_]
    · simp only [go_sem, Nat.reduceAdd, Nat.reduceMul, reduceIte, Nat.reduceLeDiff, Int.reduceLE, Int.reduceLT, Int.reduceToNat, c8, o8_1, o8_2, Dr.cellsL, Jb.cells, hr, List.length_map, h1_, Int.not_lt.2 h1_, h2_, Int.not_le.1 h2_]
  · simp only [go_sem, Nat.reduceAdd, Nat.reduceMul, reduceIte, Nat.reduceLeDiff, Int.reduceLE, Int.reduceLT, Int.reduceToNat, c8, o8_1, o8_2, Dr.cellsL, Jb.cells, hr, List.length_map, h1_, Int.not_le.1 h1_]
end Go.Proofs.YtefoleocbhkobaaGreatDoor
namespace Go.Proofs.YtefoleocbhkobaaGreatDoor
open Go Go.Ev
set_option linter.unusedSectionVars false
set_option linter.unusedSimpArgs false
set_option linter.unusedVariables false
def DrEnds (d : Dr) (x : Nat) (v : Bool) : Ex → Env → Heap → Prop := fun ex e h =>
  if v then ex = .exit x ∧ getT e 1 = .ptr 100001 0 ∧ hget h 100001 = some (.box d.cellsL) else ex = .ret ∧ getT e 2 = .bool false
def cellRight (c : Inf) (s : St) : Bool := rng 1 1099511627776 c.view && stores c.members && s.right
def cellsFrom : List Inf → List St → Bool
  | c :: cs, s :: ss => cellRight c s && cellsFrom cs ss
  | _, _ => true
theorem loop13a {n B : Nat} (d : Dr) (hB : B ≤ 1000000000) (hm0 : ∀ c ∈ d.cells, c.members.length ≤ B) (hN : B + 20 ≤ n) : ∀ (cs : List Inf) (ss : List St) (cp : List Inf) (sp : List St) (m : Nat) (env : Env) (H : Heap), d.cells = cp ++ cs → d.lows = sp ++ ss → cp.length = sp.length → cs.length = ss.length → cp.length + cs.length = 3 → cs.length + 1 ≤ m →
    evGh (.keep [1, 3] [100001]) env H = some ([(1, .ptr 100001 0), (3, .int .i64 cp.length)], [(100001, .box d.cellsL)]) →
    Ends (iter m (evCode ⟨run tab prim glob n, glob⟩ (iter n) b13_1) env H) (DrEnds d 0 (cellsFrom cs ss))
  | [], ss, cp, sp, m + 1, env, H, hc, hs, hl, hl2, h3, hm, hk => by
    have e1 : ¬ (cp.length : Int) < 3 := by simp at h3; omega
    rw [iter_step]
    generalize iter m (evCode ⟨run tab prim glob n, glob⟩ (iter n) b13_1) = g
    simp only [b13_1, ob13_1_1, ob13_1_2, ob13_1_3, ob13_1_4, hk, go_sem, Nat.reduceAdd, Nat.reduceMul, reduceIte, Nat.reduceLeDiff, Int.reduceLE, Int.reduceLT, Int.reduceToNat, e1, afterIt]
    refine Ends.of ?_
    cases ss <;> exact ⟨rfl, rfl, rfl⟩
  | c :: cs, [], cp, sp, m + 1, env, H, hc, hs, hl, hl2, h3, hm, hk => by simp at hl2
  | c :: cs, s :: ss, cp, sp, m + 1, env, H, hc, hs, hl, hl2, h3, hm, hk => by
    have e1 : (cp.length : Int) < 3 := by simp at h3; omega
    have e2 : (0 : Int) ≤ (cp.length : Int) := by omega
    have e3 : (d.cells.map infRow)[cp.length]? = some [.int .i64 c.view, .ro (c.members.map rowI), .bool c.whole] := by rw [hc]; simp [infRow]
    have e3' : (d.lows.map St.cells)[cp.length]? = some [.int .i64 s.wall, .int .i64 s.tick, .int .i64 s.node] := by rw [hs, hl]; simp [St.cells]
    have e4 : IntKind.i64.wrap ((cp.length : Int) + 1) = ((cp.length + 1 : Nat) : Int) := cast_add (by omega)
    have r1 := fits_ok (N := n) (by omega) c.view
    have hmb := hm0 c (by rw [hc]; simp)
    have r2 := stores19_ok (N := n) c.members (by omega) (by omega)
    have r3 : run tab prim glob n 38 [.agg [.int .i64 s.wall, .int .i64 s.tick, .int .i64 s.node]] = some (.bool s.right, []) := stampR05_ok (by omega) s
    have ih := fun (env2 : Env) (H2 : Heap) => loop13a (n := n) d hB hm0 hN cs ss (cp ++ [c]) (sp ++ [s]) m env2 H2 (by rw [hc]; simp) (by rw [hs]; simp) (by simp [hl]) (by simpa using hl2) (by simp at h3 ⊢; omega) (by simp at hm; omega)
    rw [iter_step]
    generalize iter m (evCode ⟨run tab prim glob n, glob⟩ (iter n) b13_1) = g at ih ⊢
    simp only [Dr.cellsL, Jb.cells, List.cons_append, List.nil_append] at hk ih
    have hf : rng 1 1099511627776 c.view = (decide (1 ≤ c.view) && decide (c.view ≤ 1099511627776)) := rfl
    have hf0 : 1 ≤ c.view → rng 0 1099511627776 c.view = decide (c.view ≤ 1099511627776) := fun h => by
      unfold rng
      rw [decide_eq_true (show 0 ≤ c.view by omega), Bool.true_and]
    by_cases k1 : 1 ≤ c.view
    case neg =>
      simp only [b13_1, ob13_1_1, ob13_1_2, ob13_1_3, ob13_1_4, hk, go_sem, Nat.reduceAdd, Nat.reduceMul, reduceIte, Nat.reduceLeDiff, Int.reduceLE, Int.reduceLT, Int.reduceToNat, e1, e2, e3, e3', e4, afterIt, cellsFrom, cellRight, hf, k1, Int.not_le.1 k1]
      exact Ends.of ⟨rfl, rfl⟩
    rw [hf0 k1] at r1
    have k1' := Int.not_lt.2 k1
    by_cases h1_ : c.view ≤ 1099511627776
    · by_cases h2_ : stores c.members = true
      · by_cases h3_ : s.right = true
        · simp only [go_sem, Nat.reduceAdd, Nat.reduceMul, reduceIte, Nat.reduceLeDiff, Int.reduceLE, Int.reduceLT, Int.reduceToNat, b13_1, ob13_1_1, ob13_1_2, ob13_1_3, ob13_1_4, hk, e1, e2, e3, e3', e4, r1, r2, r3, afterIt, cellsFrom, cellRight, hf, k1, k1', h1_, Int.not_lt.2 h1_, h2_, h3_]
          refine ih _ _ ?_
          rw [List.length_append]; rfl
        · simp only [go_sem, Nat.reduceAdd, Nat.reduceMul, reduceIte, Nat.reduceLeDiff, Int.reduceLE, Int.reduceLT, Int.reduceToNat, b13_1, ob13_1_1, ob13_1_2, ob13_1_3, ob13_1_4, hk, e1, e2, e3, e3', e4, r1, r2, r3, afterIt, cellsFrom, cellRight, hf, k1, k1', h1_, Int.not_lt.2 h1_, h2_, h3_]
          exact Ends.of ⟨rfl, rfl⟩
      · simp only [go_sem, Nat.reduceAdd, Nat.reduceMul, reduceIte, Nat.reduceLeDiff, Int.reduceLE, Int.reduceLT, Int.reduceToNat, b13_1, ob13_1_1, ob13_1_2, ob13_1_3, ob13_1_4, hk, e1, e2, e3, e3', e4, r1, r2, r3, afterIt, cellsFrom, cellRight, hf, k1, k1', h1_, Int.not_lt.2 h1_, h2_]
        exact Ends.of ⟨rfl, rfl⟩
    · simp only [go_sem, Nat.reduceAdd, Nat.reduceMul, reduceIte, Nat.reduceLeDiff, Int.reduceLE, Int.reduceLT, Int.reduceToNat, b13_1, ob13_1_1, ob13_1_2, ob13_1_3, ob13_1_4, hk, e1, e2, e3, e3', e4, r1, r2, r3, afterIt, cellsFrom, cellRight, hf, k1, k1', h1_, Int.not_le.1 h1_]
      exact Ends.of ⟨rfl, rfl⟩
end Go.Proofs.YtefoleocbhkobaaGreatDoor
namespace Go.Proofs.YtefoleocbhkobaaGreatDoor
open Go Go.Ev
set_option linter.unusedSectionVars false
set_option linter.unusedSimpArgs false
set_option linter.unusedVariables false
def DrEnds12 (d : Dr) (x : Nat) (v : Bool) : Ex → Env → Heap → Prop := fun ex e h =>
  if v then ex = .exit x ∧ getT e 1 = .ptr 100001 0 ∧ hget h 100001 = some (.box d.cellsL) ∧ hget h 100066 = none else ex = .ret ∧ getT e 2 = .bool false
theorem loop12a {n B : Nat} (d : Dr) (hB : B ≤ 1000000000) (hm0 : ∀ c ∈ d.cells, c.members.length ≤ B) (hN : B + 20 ≤ n) : ∀ (cs : List Inf) (ss : List St) (cp : List Inf) (sp : List St) (m : Nat) (env : Env) (H : Heap), d.cells = cp ++ cs → d.lows = sp ++ ss → cp.length = sp.length → cs.length = ss.length → cp.length + cs.length = 3 → cs.length + 1 ≤ m →
    evGh (.keep [1, 57] [100001]) env H = some ([(1, .ptr 100001 0), (57, .int .i64 cp.length)], [(100001, .box d.cellsL)]) →
    Ends (iter m (evCode ⟨run tab prim glob n, glob⟩ (iter n) b12_1) env H) (DrEnds12 d 0 (cellsFrom cs ss))
  | [], ss, cp, sp, m + 1, env, H, hc, hs, hl, hl2, h3, hm, hk => by
    have e1 : ¬ (cp.length : Int) < 3 := by simp at h3; omega
    rw [iter_step]
    generalize iter m (evCode ⟨run tab prim glob n, glob⟩ (iter n) b12_1) = g
    simp only [b12_1, ob12_1_1, ob12_1_2, ob12_1_3, ob12_1_4, ob12_1_5, hk, go_sem, Nat.reduceAdd, Nat.reduceMul, reduceIte, Nat.reduceLeDiff, Int.reduceLE, Int.reduceLT, Int.reduceToNat, e1, afterIt]
    refine Ends.of ?_
    cases ss <;> exact ⟨rfl, rfl, rfl, rfl⟩
  | c :: cs, [], cp, sp, m + 1, env, H, hc, hs, hl, hl2, h3, hm, hk => by simp at hl2
  | c :: cs, s :: ss, cp, sp, m + 1, env, H, hc, hs, hl, hl2, h3, hm, hk => by
    have e1 : (cp.length : Int) < 3 := by simp at h3; omega
    have e2 : (0 : Int) ≤ (cp.length : Int) := by omega
    have e3 : (d.cells.map infRow)[cp.length]? = some [.int .i64 c.view, .ro (c.members.map rowI), .bool c.whole] := by rw [hc]; simp [infRow]
    have e3' : (d.lows.map St.cells)[cp.length]? = some [.int .i64 s.wall, .int .i64 s.tick, .int .i64 s.node] := by rw [hs, hl]; simp [St.cells]
    have e4 : IntKind.i64.wrap ((cp.length : Int) + 1) = ((cp.length + 1 : Nat) : Int) := cast_add (by omega)
    have r1 : run tab prim glob n 33 [.int .i64 1, .ro [[.int .i64 c.view]]] = some (.bool (allFrom 1 [c.view]), []) := from_ok (N := n) 1 [c.view] (by simp) (by simp; omega)
    have hmb := hm0 c (by rw [hc]; simp)
    have r2 := stores_ok (N := n) c.members (by omega) (by omega)
    have r3 : run tab prim glob n 31 [.agg [.int .i64 s.wall, .int .i64 s.tick, .int .i64 s.node]] = some (.bool s.right, []) := stampR_ok (by omega) s
    have ih := fun (env2 : Env) (H2 : Heap) => loop12a (n := n) d hB hm0 hN cs ss (cp ++ [c]) (sp ++ [s]) m env2 H2 (by rw [hc]; simp) (by rw [hs]; simp) (by simp [hl]) (by simpa using hl2) (by simp at h3 ⊢; omega) (by simp at hm; omega)
    rw [iter_step]
    generalize iter m (evCode ⟨run tab prim glob n, glob⟩ (iter n) b12_1) = g at ih ⊢
    simp only [Dr.cellsL, Jb.cells, List.cons_append, List.nil_append] at hk ih
    have hf : allFrom 1 [c.view] = rng 1 1099511627776 c.view := by simp [allFrom]
    rw [hf] at r1
    by_cases h1_ : rng 1 1099511627776 c.view = true
    · by_cases h2_ : stores c.members = true
      · by_cases h3_ : s.right = true
        · simp only [go_sem, Nat.reduceAdd, Nat.reduceMul, reduceIte, Nat.reduceLeDiff, Int.reduceLE, Int.reduceLT, Int.reduceToNat, b12_1, ob12_1_1, ob12_1_2, ob12_1_3, ob12_1_4, ob12_1_5, hk, e1, e2, e3, e3', e4, r1, r2, r3, afterIt, cellsFrom, cellRight, h1_, h2_, h3_]
          refine ih _ _ ?_
          rw [List.length_append]; rfl
        · simp only [go_sem, Nat.reduceAdd, Nat.reduceMul, reduceIte, Nat.reduceLeDiff, Int.reduceLE, Int.reduceLT, Int.reduceToNat, b12_1, ob12_1_1, ob12_1_2, ob12_1_3, ob12_1_4, ob12_1_5, hk, e1, e2, e3, e3', e4, r1, r2, r3, afterIt, cellsFrom, cellRight, h1_, h2_, h3_]
          exact Ends.of ⟨rfl, rfl⟩
      · simp only [go_sem, Nat.reduceAdd, Nat.reduceMul, reduceIte, Nat.reduceLeDiff, Int.reduceLE, Int.reduceLT, Int.reduceToNat, b12_1, ob12_1_1, ob12_1_2, ob12_1_3, ob12_1_4, ob12_1_5, hk, e1, e2, e3, e3', e4, r1, r2, r3, afterIt, cellsFrom, cellRight, h1_, h2_]
        exact Ends.of ⟨rfl, rfl⟩
    · simp only [go_sem, Nat.reduceAdd, Nat.reduceMul, reduceIte, Nat.reduceLeDiff, Int.reduceLE, Int.reduceLT, Int.reduceToNat, b12_1, ob12_1_1, ob12_1_2, ob12_1_3, ob12_1_4, ob12_1_5, hk, e1, e2, e3, e3', e4, r1, r2, r3, afterIt, cellsFrom, cellRight, h1_]
      exact Ends.of ⟨rfl, rfl⟩
end Go.Proofs.YtefoleocbhkobaaGreatDoor
namespace Go.Proofs.YtefoleocbhkobaaGreatDoor
open Go Go.Ev
set_option linter.unusedSectionVars false
set_option linter.unusedSimpArgs false
set_option linter.unusedVariables false
def rowsFrom (last : Int) : List Rw → Bool
  | [] => true
  | r :: t => decide (last < r.client) && decide (r.client ≤ 8) && (rng 0 1099511627776 r.req && rng 0 1099511627776 r.lease) && r.tm.right && decide (0 ≤ r.err) && decide (r.err ≤ 16) && rowsFrom r.client t
theorem loop12b {n : Nat} (d : Dr) (hl : d.opened.length ≤ 2000000) (hN : 20 ≤ n) : ∀ (rest pre : List Rw) (last : Int) (m : Nat) (env : Env) (H : Heap), d.opened = pre ++ rest → rest.length + 1 ≤ m →
    evGh (.keep [4, 90, 91, 92] [100001, 100066]) env H = some ([(4, .int .i64 last), (90, .ro (d.opened.map Rw.cells)), (91, .int .i64 d.opened.length), (92, .int .i64 pre.length)], [(100001, .box d.cellsL)]) →
    Ends (iter m (evCode ⟨run tab prim glob n, glob⟩ (iter n) b12_2) env H) (fun ex e _ => if rowsFrom last rest then ex = .exit 2 else ex = .ret ∧ getT e 2 = .bool false)
  | [], pre, last, m + 1, env, H, hp, hm, hk => by
    have e1 : pre.length = d.opened.length := by rw [hp]; simp
    rw [iter_step]
    generalize iter m (evCode ⟨run tab prim glob n, glob⟩ (iter n) b12_2) = g
    simp only [b12_2, ob12_2_1, ob12_2_2, ob12_2_3, ob12_2_4, ob12_2_5, ob12_2_6, hk, go_sem, Nat.reduceAdd, Nat.reduceMul, reduceIte, Nat.reduceLeDiff, Int.reduceLE, Int.reduceLT, Int.reduceToNat, e1, Int.lt_irrefl, afterIt]
    exact Ends.of rfl
  | x :: rest, pre, last, m + 1, env, H, hp, hm, hk => by
    have e0 : pre.length < d.opened.length := by rw [hp]; simp
    have e1 : (pre.length : Int) < (d.opened.length : Int) := by omega
    have e2 : (0 : Int) ≤ (pre.length : Int) := by omega
    have e3 : (d.opened.map Rw.cells)[pre.length]? = some [.int .i64 x.client, .int .i64 x.req, .int .i64 x.lease, .int .i64 x.tm.wall, .int .i64 x.tm.tick, .int .i64 x.tm.node, .int .i64 x.err] := by rw [hp]; simp [Rw.cells]
    have e4 : IntKind.i64.wrap ((pre.length : Int) + 1) = ((pre.length + 1 : Nat) : Int) := cast_add (by omega)
    have r1 : run tab prim glob n 33 [.int .i64 0, .ro [[.int .i64 x.req], [.int .i64 x.lease]]] = some (.bool (allFrom 0 [x.req, x.lease]), []) := from_ok (N := n) 0 [x.req, x.lease] (by simp) (by simp; omega)
    have hf : allFrom 0 [x.req, x.lease] = (rng 0 1099511627776 x.req && rng 0 1099511627776 x.lease) := by simp [allFrom]
    rw [hf] at r1
    have r2 : run tab prim glob n 31 [.agg [.int .i64 x.tm.wall, .int .i64 x.tm.tick, .int .i64 x.tm.node]] = some (.bool x.tm.right, []) := stampR_ok (by omega) x.tm
    have ih := fun (env2 : Env) (H2 : Heap) => loop12b (n := n) d hl hN rest (pre ++ [x]) x.client m env2 H2 (by rw [hp]; simp) (by simp at hm; omega)
    have hs : rowsFrom last (x :: rest) = (decide (last < x.client) && decide (x.client ≤ 8) && (rng 0 1099511627776 x.req && rng 0 1099511627776 x.lease) && x.tm.right && decide (0 ≤ x.err) && decide (x.err ≤ 16) && rowsFrom x.client rest) := rfl
    rw [hs, iter_step]
    generalize iter m (evCode ⟨run tab prim glob n, glob⟩ (iter n) b12_2) = g at ih ⊢
    by_cases h1_ : last < x.client
    · by_cases h2_ : x.client ≤ 8
      · by_cases h3_ : (rng 0 1099511627776 x.req && rng 0 1099511627776 x.lease) = true
        · by_cases h4_ : x.tm.right = true
          · by_cases h5_ : 0 ≤ x.err
            · by_cases h6_ : x.err ≤ 16
              · simp only [go_sem, Nat.reduceAdd, Nat.reduceMul, reduceIte, Nat.reduceLeDiff, Int.reduceLE, Int.reduceLT, Int.reduceToNat, b12_2, ob12_2_1, ob12_2_2, ob12_2_3, ob12_2_4, ob12_2_5, ob12_2_6, hk, e1, e2, e3, e4, r1, r2, afterIt, h1_, Int.not_le.2 h1_, h2_, Int.not_lt.2 h2_, h3_, h4_, h5_, Int.not_lt.2 h5_, h6_, Int.not_lt.2 h6_]
                refine ih _ _ ?_
                rw [List.length_append]; rfl
              · simp only [go_sem, Nat.reduceAdd, Nat.reduceMul, reduceIte, Nat.reduceLeDiff, Int.reduceLE, Int.reduceLT, Int.reduceToNat, b12_2, ob12_2_1, ob12_2_2, ob12_2_3, ob12_2_4, ob12_2_5, ob12_2_6, hk, e1, e2, e3, e4, r1, r2, afterIt, h1_, Int.not_le.2 h1_, h2_, Int.not_lt.2 h2_, h3_, h4_, h5_, Int.not_lt.2 h5_, h6_, Int.not_le.1 h6_]
                exact Ends.of ⟨rfl, rfl⟩
            · simp only [go_sem, Nat.reduceAdd, Nat.reduceMul, reduceIte, Nat.reduceLeDiff, Int.reduceLE, Int.reduceLT, Int.reduceToNat, b12_2, ob12_2_1, ob12_2_2, ob12_2_3, ob12_2_4, ob12_2_5, ob12_2_6, hk, e1, e2, e3, e4, r1, r2, afterIt, h1_, Int.not_le.2 h1_, h2_, Int.not_lt.2 h2_, h3_, h4_, h5_, Int.not_le.1 h5_]
              exact Ends.of ⟨rfl, rfl⟩
          · simp only [go_sem, Nat.reduceAdd, Nat.reduceMul, reduceIte, Nat.reduceLeDiff, Int.reduceLE, Int.reduceLT, Int.reduceToNat, b12_2, ob12_2_1, ob12_2_2, ob12_2_3, ob12_2_4, ob12_2_5, ob12_2_6, hk, e1, e2, e3, e4, r1, r2, afterIt, h1_, Int.not_le.2 h1_, h2_, Int.not_lt.2 h2_, h3_, h4_]
            exact Ends.of ⟨rfl, rfl⟩
        · simp only [go_sem, Nat.reduceAdd, Nat.reduceMul, reduceIte, Nat.reduceLeDiff, Int.reduceLE, Int.reduceLT, Int.reduceToNat, b12_2, ob12_2_1, ob12_2_2, ob12_2_3, ob12_2_4, ob12_2_5, ob12_2_6, hk, e1, e2, e3, e4, r1, r2, afterIt, h1_, Int.not_le.2 h1_, h2_, Int.not_lt.2 h2_, h3_]
          exact Ends.of ⟨rfl, rfl⟩
      · simp only [go_sem, Nat.reduceAdd, Nat.reduceMul, reduceIte, Nat.reduceLeDiff, Int.reduceLE, Int.reduceLT, Int.reduceToNat, b12_2, ob12_2_1, ob12_2_2, ob12_2_3, ob12_2_4, ob12_2_5, ob12_2_6, hk, e1, e2, e3, e4, r1, r2, afterIt, h1_, Int.not_le.2 h1_, h2_, Int.not_le.1 h2_]
        exact Ends.of ⟨rfl, rfl⟩
    · simp only [go_sem, Nat.reduceAdd, Nat.reduceMul, reduceIte, Nat.reduceLeDiff, Int.reduceLE, Int.reduceLT, Int.reduceToNat, b12_2, ob12_2_1, ob12_2_2, ob12_2_3, ob12_2_4, ob12_2_5, ob12_2_6, hk, e1, e2, e3, e4, r1, r2, afterIt, h1_, Int.not_lt.1 h1_]
      exact Ends.of ⟨rfl, rfl⟩
end Go.Proofs.YtefoleocbhkobaaGreatDoor
namespace Go.Proofs.YtefoleocbhkobaaGreatDoor
open Go Go.Ev
set_option linter.unusedSectionVars false
set_option linter.unusedSimpArgs false
set_option linter.unusedVariables false
set_option maxRecDepth 100000 in
set_option maxHeartbeats 16000000 in
theorem loop13b {n : Nat} (d : Dr) (hl : d.opened.length ≤ 2000000) (hN : 20 ≤ n) : ∀ (rest pre : List Rw) (last : Int) (m : Nat) (env : Env) (H : Heap), d.opened = pre ++ rest → 0 ≤ last → (pre = [] ∧ last = 0 ∨ ∃ p0 y, pre = p0 ++ [y] ∧ last = y.client) → rest.length + 1 ≤ m →
    evGh (.keep [1, 4] [100001]) env H = some ([(1, .ptr 100001 0), (4, .int .i64 pre.length)], [(100001, .box d.cellsL)]) →
    Ends (iter m (evCode ⟨run tab prim glob n, glob⟩ (iter n) b13_2) env H) (fun ex e _ => if rowsFrom last rest then ex = .exit 2 else ex = .ret ∧ getT e 2 = .bool false)
  | [], pre, last, m + 1, env, H, hp, h0, hlast, hm, hk => by
    have e1 : pre.length = d.opened.length := by rw [hp]; simp
    rw [iter_step]
    generalize iter m (evCode ⟨run tab prim glob n, glob⟩ (iter n) b13_2) = g
    simp only [Dr.cellsL, Jb.cells, List.cons_append, List.nil_append] at hk
    simp only [b13_2, ob13_2_1, ob13_2_2, ob13_2_3, ob13_2_4, ob13_2_5, hk, go_sem, Nat.reduceAdd, Nat.reduceMul, reduceIte, Nat.reduceLeDiff, Int.reduceLE, Int.reduceLT, Int.reduceToNat, e1, List.length_map, Int.lt_irrefl, afterIt]
    exact Ends.of rfl
  | x :: rest, pre, last, m + 1, env, H, hp, h0, hlast, hm, hk => by
    have e0 : pre.length < d.opened.length := by rw [hp]; simp
    have e1 : (pre.length : Int) < (d.opened.length : Int) := by omega
    have e2 : (0 : Int) ≤ (pre.length : Int) := by omega
    have e3 : (d.opened.map Rw.cells)[pre.length]? = some [.int .i64 x.client, .int .i64 x.req, .int .i64 x.lease, .int .i64 x.tm.wall, .int .i64 x.tm.tick, .int .i64 x.tm.node, .int .i64 x.err] := by rw [hp]; simp [Rw.cells]
    have e4 : IntKind.i64.wrap ((pre.length : Int) + 1) = ((pre.length + 1 : Nat) : Int) := cast_add (by omega)
    have r1 := fun x => fits_ok (N := n) (by omega) x
    have r2 : run tab prim glob n 38 [.agg [.int .i64 x.tm.wall, .int .i64 x.tm.tick, .int .i64 x.tm.node]] = some (.bool x.tm.right, []) := stampR05_ok (by omega) x.tm
    have ih := fun (env2 : Env) (H2 : Heap) (h0 : 0 ≤ x.client) => loop13b (n := n) d hl hN rest (pre ++ [x]) x.client m env2 H2 (by rw [hp]; simp) h0 (.inr ⟨pre, x, rfl, rfl⟩) (by simp at hm; omega)
    have hs : rowsFrom last (x :: rest) = (decide (last < x.client) && decide (x.client ≤ 8) && (rng 0 1099511627776 x.req && rng 0 1099511627776 x.lease) && x.tm.right && decide (0 ≤ x.err) && decide (x.err ≤ 16) && rowsFrom x.client rest) := rfl
    rw [hs, iter_step]
    generalize iter m (evCode ⟨run tab prim glob n, glob⟩ (iter n) b13_2) = g at ih ⊢
    simp only [Dr.cellsL, Jb.cells, List.cons_append, List.nil_append] at hk ih
    rcases hlast with ⟨rfl, rfl⟩ | ⟨p0, y, rfl, rfl⟩
    · have hk := hk
      rw [show (([] : List Rw).length : Int) = 0 from rfl] at hk e1
      have e3 : (d.opened.map Rw.cells)[0]? = _ := e3
      have e4 : IntKind.i64.wrap ((0 : Int) + 1) = 1 := by decide
      clear e2
      have e2 : (0 : Int) ≤ 0 := by decide
      have hq : ((0 : Int) < x.client) = (1 ≤ x.client) := by rw [eq_iff_iff]; omega
      by_cases h1_ : 1 ≤ x.client
      · by_cases h2_ : x.client ≤ 8
        · by_cases h3_ : rng 0 1099511627776 x.req = true
          · by_cases h4_ : rng 0 1099511627776 x.lease = true
            · by_cases h5_ : x.tm.right = true
              · by_cases h6_ : 0 ≤ x.err
                · by_cases h7_ : x.err ≤ 16
                  · simp only [go_sem, Nat.reduceAdd, Nat.reduceMul, reduceIte, Nat.reduceLeDiff, Int.reduceLE, Int.reduceLT, Int.reduceToNat, b13_2, ob13_2_1, ob13_2_2, ob13_2_3, ob13_2_4, ob13_2_5, hk, e1, e2, e3, e4, r1, r2, List.length_map, afterIt, hq, Int.lt_irrefl, h1_, Int.not_lt.2 h1_, h2_, Int.not_lt.2 h2_, h3_, h4_, h5_, h6_, Int.not_lt.2 h6_, h7_, Int.not_lt.2 h7_]
                    refine ih _ _ (by omega) ?_
                    rfl
                  · simp only [go_sem, Nat.reduceAdd, Nat.reduceMul, reduceIte, Nat.reduceLeDiff, Int.reduceLE, Int.reduceLT, Int.reduceToNat, b13_2, ob13_2_1, ob13_2_2, ob13_2_3, ob13_2_4, ob13_2_5, hk, e1, e2, e3, e4, r1, r2, List.length_map, afterIt, hq, Int.lt_irrefl, h1_, Int.not_lt.2 h1_, h2_, Int.not_lt.2 h2_, h3_, h4_, h5_, h6_, Int.not_lt.2 h6_, h7_, Int.not_le.1 h7_]
                    exact Ends.of ⟨rfl, rfl⟩
                · simp only [go_sem, Nat.reduceAdd, Nat.reduceMul, reduceIte, Nat.reduceLeDiff, Int.reduceLE, Int.reduceLT, Int.reduceToNat, b13_2, ob13_2_1, ob13_2_2, ob13_2_3, ob13_2_4, ob13_2_5, hk, e1, e2, e3, e4, r1, r2, List.length_map, afterIt, hq, Int.lt_irrefl, h1_, Int.not_lt.2 h1_, h2_, Int.not_lt.2 h2_, h3_, h4_, h5_, h6_, Int.not_le.1 h6_]
                  exact Ends.of ⟨rfl, rfl⟩
              · simp only [go_sem, Nat.reduceAdd, Nat.reduceMul, reduceIte, Nat.reduceLeDiff, Int.reduceLE, Int.reduceLT, Int.reduceToNat, b13_2, ob13_2_1, ob13_2_2, ob13_2_3, ob13_2_4, ob13_2_5, hk, e1, e2, e3, e4, r1, r2, List.length_map, afterIt, hq, Int.lt_irrefl, h1_, Int.not_lt.2 h1_, h2_, Int.not_lt.2 h2_, h3_, h4_, h5_]
                exact Ends.of ⟨rfl, rfl⟩
            · simp only [go_sem, Nat.reduceAdd, Nat.reduceMul, reduceIte, Nat.reduceLeDiff, Int.reduceLE, Int.reduceLT, Int.reduceToNat, b13_2, ob13_2_1, ob13_2_2, ob13_2_3, ob13_2_4, ob13_2_5, hk, e1, e2, e3, e4, r1, r2, List.length_map, afterIt, hq, Int.lt_irrefl, h1_, Int.not_lt.2 h1_, h2_, Int.not_lt.2 h2_, h3_, h4_]
              exact Ends.of ⟨rfl, rfl⟩
          · simp only [go_sem, Nat.reduceAdd, Nat.reduceMul, reduceIte, Nat.reduceLeDiff, Int.reduceLE, Int.reduceLT, Int.reduceToNat, b13_2, ob13_2_1, ob13_2_2, ob13_2_3, ob13_2_4, ob13_2_5, hk, e1, e2, e3, e4, r1, r2, List.length_map, afterIt, hq, Int.lt_irrefl, h1_, Int.not_lt.2 h1_, h2_, Int.not_lt.2 h2_, h3_]
            exact Ends.of ⟨rfl, rfl⟩
        · simp only [go_sem, Nat.reduceAdd, Nat.reduceMul, reduceIte, Nat.reduceLeDiff, Int.reduceLE, Int.reduceLT, Int.reduceToNat, b13_2, ob13_2_1, ob13_2_2, ob13_2_3, ob13_2_4, ob13_2_5, hk, e1, e2, e3, e4, r1, r2, List.length_map, afterIt, hq, Int.lt_irrefl, h1_, Int.not_lt.2 h1_, h2_, Int.not_le.1 h2_]
          exact Ends.of ⟨rfl, rfl⟩
      · simp only [go_sem, Nat.reduceAdd, Nat.reduceMul, reduceIte, Nat.reduceLeDiff, Int.reduceLE, Int.reduceLT, Int.reduceToNat, b13_2, ob13_2_1, ob13_2_2, ob13_2_3, ob13_2_4, ob13_2_5, hk, e1, e2, e3, e4, r1, r2, List.length_map, afterIt, hq, Int.lt_irrefl, h1_, Int.not_le.1 h1_]
        exact Ends.of ⟨rfl, rfl⟩
    · have e5 : (0 : Int) < ((p0 ++ [y]).length : Int) := by simp <;> omega
      have e6 : IntKind.i64.wrap (((p0 ++ [y]).length : Int) - 1) = (p0.length : Int) := by
        rw [IntWalk.i64_in _ (by omega)]; simp
      have e7 : (0 : Int) ≤ (p0.length : Int) := by omega
      have e8 : (d.opened.map Rw.cells)[p0.length]? = some [.int .i64 y.client, .int .i64 y.req, .int .i64 y.lease, .int .i64 y.tm.wall, .int .i64 y.tm.tick, .int .i64 y.tm.node, .int .i64 y.err] := by rw [hp]; simp [Rw.cells]
      by_cases h1 : 1 ≤ x.client
      case neg =>
        have hq : ¬ y.client < x.client := by omega
        simp only [b13_2, ob13_2_1, ob13_2_2, ob13_2_3, ob13_2_4, ob13_2_5, hk, go_sem, Nat.reduceAdd, Nat.reduceMul, reduceIte, Nat.reduceLeDiff, Int.reduceLE, Int.reduceLT, Int.reduceToNat, e1, e2, e3, e4, e5, e6, e7, e8, r1, r2, List.length_map, afterIt, h1, Int.not_le.1 h1, hq]
        exact Ends.of ⟨rfl, rfl⟩
      have h1' := Int.not_lt.2 h1
      by_cases h1_ : x.client ≤ 8
      · by_cases h2_ : y.client < x.client
        · by_cases h3_ : rng 0 1099511627776 x.req = true
          · by_cases h4_ : rng 0 1099511627776 x.lease = true
            · by_cases h5_ : x.tm.right = true
              · by_cases h6_ : 0 ≤ x.err
                · by_cases h7_ : x.err ≤ 16
                  · simp only [go_sem, Nat.reduceAdd, Nat.reduceMul, reduceIte, Nat.reduceLeDiff, Int.reduceLE, Int.reduceLT, Int.reduceToNat, b13_2, ob13_2_1, ob13_2_2, ob13_2_3, ob13_2_4, ob13_2_5, hk, e1, e2, e3, e4, e5, e6, e7, e8, r1, r2, List.length_map, afterIt, h1, h1', h1_, Int.not_lt.2 h1_, h2_, Int.not_le.2 h2_, h3_, h4_, h5_, h6_, Int.not_lt.2 h6_, h7_, Int.not_lt.2 h7_]
                    refine ih _ _ (by omega) ?_
                    rw [show (p0 ++ [y] ++ [x]).length = (p0 ++ [y]).length + 1 from List.length_append]; rfl
                  · simp only [go_sem, Nat.reduceAdd, Nat.reduceMul, reduceIte, Nat.reduceLeDiff, Int.reduceLE, Int.reduceLT, Int.reduceToNat, b13_2, ob13_2_1, ob13_2_2, ob13_2_3, ob13_2_4, ob13_2_5, hk, e1, e2, e3, e4, e5, e6, e7, e8, r1, r2, List.length_map, afterIt, h1, h1', h1_, Int.not_lt.2 h1_, h2_, Int.not_le.2 h2_, h3_, h4_, h5_, h6_, Int.not_lt.2 h6_, h7_, Int.not_le.1 h7_]
                    exact Ends.of ⟨rfl, rfl⟩
                · simp only [go_sem, Nat.reduceAdd, Nat.reduceMul, reduceIte, Nat.reduceLeDiff, Int.reduceLE, Int.reduceLT, Int.reduceToNat, b13_2, ob13_2_1, ob13_2_2, ob13_2_3, ob13_2_4, ob13_2_5, hk, e1, e2, e3, e4, e5, e6, e7, e8, r1, r2, List.length_map, afterIt, h1, h1', h1_, Int.not_lt.2 h1_, h2_, Int.not_le.2 h2_, h3_, h4_, h5_, h6_, Int.not_le.1 h6_]
                  exact Ends.of ⟨rfl, rfl⟩
              · simp only [go_sem, Nat.reduceAdd, Nat.reduceMul, reduceIte, Nat.reduceLeDiff, Int.reduceLE, Int.reduceLT, Int.reduceToNat, b13_2, ob13_2_1, ob13_2_2, ob13_2_3, ob13_2_4, ob13_2_5, hk, e1, e2, e3, e4, e5, e6, e7, e8, r1, r2, List.length_map, afterIt, h1, h1', h1_, Int.not_lt.2 h1_, h2_, Int.not_le.2 h2_, h3_, h4_, h5_]
                exact Ends.of ⟨rfl, rfl⟩
            · simp only [go_sem, Nat.reduceAdd, Nat.reduceMul, reduceIte, Nat.reduceLeDiff, Int.reduceLE, Int.reduceLT, Int.reduceToNat, b13_2, ob13_2_1, ob13_2_2, ob13_2_3, ob13_2_4, ob13_2_5, hk, e1, e2, e3, e4, e5, e6, e7, e8, r1, r2, List.length_map, afterIt, h1, h1', h1_, Int.not_lt.2 h1_, h2_, Int.not_le.2 h2_, h3_, h4_]
              exact Ends.of ⟨rfl, rfl⟩
          · simp only [go_sem, Nat.reduceAdd, Nat.reduceMul, reduceIte, Nat.reduceLeDiff, Int.reduceLE, Int.reduceLT, Int.reduceToNat, b13_2, ob13_2_1, ob13_2_2, ob13_2_3, ob13_2_4, ob13_2_5, hk, e1, e2, e3, e4, e5, e6, e7, e8, r1, r2, List.length_map, afterIt, h1, h1', h1_, Int.not_lt.2 h1_, h2_, Int.not_le.2 h2_, h3_]
            exact Ends.of ⟨rfl, rfl⟩
        · simp only [go_sem, Nat.reduceAdd, Nat.reduceMul, reduceIte, Nat.reduceLeDiff, Int.reduceLE, Int.reduceLT, Int.reduceToNat, b13_2, ob13_2_1, ob13_2_2, ob13_2_3, ob13_2_4, ob13_2_5, hk, e1, e2, e3, e4, e5, e6, e7, e8, r1, r2, List.length_map, afterIt, h1, h1', h1_, Int.not_lt.2 h1_, h2_, Int.not_lt.1 h2_]
          exact Ends.of ⟨rfl, rfl⟩
      · simp only [go_sem, Nat.reduceAdd, Nat.reduceMul, reduceIte, Nat.reduceLeDiff, Int.reduceLE, Int.reduceLT, Int.reduceToNat, b13_2, ob13_2_1, ob13_2_2, ob13_2_3, ob13_2_4, ob13_2_5, hk, e1, e2, e3, e4, e5, e6, e7, e8, r1, r2, List.length_map, afterIt, h1, h1', h1_, Int.not_le.1 h1_]
        exact Ends.of ⟨rfl, rfl⟩
end Go.Proofs.YtefoleocbhkobaaGreatDoor
namespace Go.Proofs.YtefoleocbhkobaaGreatDoor
open Go Go.Ev
set_option linter.unusedSectionVars false
set_option linter.unusedSimpArgs false
set_option linter.unusedVariables false
structure Dr.small (d : Dr) (B : Nat) : Prop where
  places : d.places.length ≤ B
  texts : ∀ p ∈ d.places, p.small B
  leases : d.leases.length ≤ B
  wait : d.job.wait.length ≤ B
  jobm : d.job.members.length ≤ B
  opened : d.opened.length ≤ B
  cells : ∀ c ∈ d.cells, c.members.length ≤ B
def Dr.right (d : Dr) : Bool :=
  placesRight d.places && leasesRight d.leases && decide ((d.cells.length : Int) = 3) && decide ((d.lows.length : Int) = 3) && decide (2 ≤ d.next) && decide (d.next ≤ 1099511627776) && d.mark.right && d.job.right && decide ((d.opened.length : Int) ≤ 8) &&
  cellsFrom d.cells d.lows && rowsFrom 0 d.opened
set_option maxRecDepth 100000 in
set_option maxHeartbeats 16000000 in
theorem dir_ok {N B : Nat} (d : Dr) (hB : B ≤ 2000000) (hd : d.small B) (hN : 10 * B + 100 ≤ N) : run tab prim glob N 12 [.agg d.cellsL] = some (.bool d.right, []) := by
  obtain ⟨n, rfl⟩ : ∃ n, N = n + 1 := ⟨N - 1, by omega⟩
  rw [enters (fn := c12) rfl]
  obtain ⟨s1, s2, s3, s4, s5, s6, s7⟩ := hd
  have r1 := places_ok (N := n) d.places (by omega) s1 s2 (by omega)
  have r2 := leaseR_ok (N := n) d.leases (by omega) (by omega)
  have r3 : run tab prim glob n 31 [.agg [.int .i64 d.mark.wall, .int .i64 d.mark.tick, .int .i64 d.mark.node]] = some (.bool d.mark.right, []) := stampR_ok (by omega) d.mark
  have r4 := job_ok (N := n) d.job (by omega) (by omega) (by omega)
  simp only [Jb.cells] at r4
  have hL1 := fun env H hc hw h => loop12a (n := n) (B := B) d (by omega) s7 (by omega) d.cells d.lows [] [] n env H rfl rfl rfl hc hw (by omega) h
  have hL2 := fun env H h => loop12b (n := n) d (by omega) (by omega) d.opened [] 0 n env H rfl (by omega) h
  generalize hg1 : iter n (evCode ⟨run tab prim glob n, glob⟩ (iter n) b12_1) = g1 at hL1
  generalize hg2 : iter n (evCode ⟨run tab prim glob n, glob⟩ (iter n) b12_2) = g2 at hL2
  by_cases h1_ : placesRight d.places = true
  · by_cases h2_ : leasesRight d.leases = true
    · by_cases h3_ : (d.cells.length : Int) = 3
      · by_cases h4_ : (d.lows.length : Int) = 3
        · by_cases h5_ : 2 ≤ d.next
          · by_cases h6_ : d.next ≤ 1099511627776
            · by_cases h7_ : d.mark.right = true
              · by_cases h8_ : d.job.right = true
                · by_cases h9_ : (d.opened.length : Int) ≤ 8
                  · simp only [go_sem, Nat.reduceAdd, Nat.reduceMul, reduceIte, Nat.reduceLeDiff, Int.reduceLE, Int.reduceLT, Int.reduceToNat, c12, o12_1, o12_2, o12_3, o12_4, Dr.cellsL, Jb.cells, r1, r2, r3, r4, List.length_map, Dr.right, h1_, h2_, h3_, h4_, h5_, Int.not_lt.2 h5_, h6_, Int.not_lt.2 h6_, h7_, h8_, h9_, Int.not_lt.2 h9_, hg1]
                    generalize hE : g1 _ _ = o
                    obtain ⟨ex, env', H', rfl, h5⟩ := Ends.at (fun env H h => hL1 env H (by omega) (by simp; omega) h) hE (by rfl)
                    unfold DrEnds12 at h5
                    cases hw : cellsFrom d.cells d.lows
                    · rw [hw] at h5
                      obtain ⟨rfl, h6⟩ := h5
                      simp only [go_sem, Nat.reduceAdd, Nat.reduceMul, reduceIte, Nat.reduceLeDiff, Int.reduceLE, Int.reduceLT, Int.reduceToNat, c12, o12_1, o12_2, o12_3, o12_4, Dr.cellsL, Jb.cells, r1, r2, r3, r4, List.length_map, Dr.right, h1_, h2_, h3_, h4_, h5_, Int.not_lt.2 h5_, h6_, Int.not_lt.2 h6_, h7_, h8_, h9_, Int.not_lt.2 h9_, h6, hw]
                    rw [hw] at h5
                    obtain ⟨rfl, h6, h7, h8⟩ := h5
                    simp only [Dr.cellsL, Jb.cells, List.cons_append, List.nil_append] at h7 hL2
                    simp only [go_sem, Nat.reduceAdd, Nat.reduceMul, reduceIte, Nat.reduceLeDiff, Int.reduceLE, Int.reduceLT, Int.reduceToNat, c12, o12_1, o12_2, o12_3, o12_4, Dr.cellsL, Jb.cells, r1, r2, r3, r4, List.length_map, Dr.right, h1_, h2_, h3_, h4_, h5_, Int.not_lt.2 h5_, h6_, Int.not_lt.2 h6_, h7_, h8_, h9_, Int.not_lt.2 h9_, k12_2, ok12_2_1, ok12_2_2, h6, h7, hw, hg2]
                    generalize hE2 : g2 _ _ = o
                    obtain ⟨ex, env2, H2, rfl, h9⟩ := Ends.at hL2 hE2 (by simp only [go_sem, Nat.reduceAdd, Nat.reduceMul, reduceIte, Nat.reduceLeDiff, Int.reduceLE, Int.reduceLT, Int.reduceToNat, mentL, ment, ment1, evGh, keepE, keepH, h6, h7, h8, List.length_map])
                    cases hr : rowsFrom 0 d.opened
                    · rw [hr] at h9
                      obtain ⟨rfl, h10⟩ := h9
                      simp only [go_sem, Nat.reduceAdd, Nat.reduceMul, reduceIte, Nat.reduceLeDiff, Int.reduceLE, Int.reduceLT, Int.reduceToNat, c12, o12_1, o12_2, o12_3, o12_4, Dr.cellsL, Jb.cells, r1, r2, r3, r4, List.length_map, Dr.right, h1_, h2_, h3_, h4_, h5_, Int.not_lt.2 h5_, h6_, Int.not_lt.2 h6_, h7_, h8_, h9_, Int.not_lt.2 h9_, h10, hr]
                    rw [hr] at h9
                    simp only [if_true] at h9
                    subst h9
                    simp only [go_sem, Nat.reduceAdd, Nat.reduceMul, reduceIte, Nat.reduceLeDiff, Int.reduceLE, Int.reduceLT, Int.reduceToNat, c12, o12_1, o12_2, o12_3, o12_4, Dr.cellsL, Jb.cells, r1, r2, r3, r4, List.length_map, Dr.right, h1_, h2_, h3_, h4_, h5_, Int.not_lt.2 h5_, h6_, Int.not_lt.2 h6_, h7_, h8_, h9_, Int.not_lt.2 h9_, k12_1, ok12_1_1, hr]
                  · simp only [go_sem, Nat.reduceAdd, Nat.reduceMul, reduceIte, Nat.reduceLeDiff, Int.reduceLE, Int.reduceLT, Int.reduceToNat, c12, o12_1, o12_2, o12_3, o12_4, Dr.cellsL, Jb.cells, r1, r2, r3, r4, List.length_map, Dr.right, h1_, h2_, h3_, h4_, h5_, Int.not_lt.2 h5_, h6_, Int.not_lt.2 h6_, h7_, h8_, h9_, Int.not_le.1 h9_]
                · simp only [go_sem, Nat.reduceAdd, Nat.reduceMul, reduceIte, Nat.reduceLeDiff, Int.reduceLE, Int.reduceLT, Int.reduceToNat, c12, o12_1, o12_2, o12_3, o12_4, Dr.cellsL, Jb.cells, r1, r2, r3, r4, List.length_map, Dr.right, h1_, h2_, h3_, h4_, h5_, Int.not_lt.2 h5_, h6_, Int.not_lt.2 h6_, h7_, h8_]
              · simp only [go_sem, Nat.reduceAdd, Nat.reduceMul, reduceIte, Nat.reduceLeDiff, Int.reduceLE, Int.reduceLT, Int.reduceToNat, c12, o12_1, o12_2, o12_3, o12_4, Dr.cellsL, Jb.cells, r1, r2, r3, r4, List.length_map, Dr.right, h1_, h2_, h3_, h4_, h5_, Int.not_lt.2 h5_, h6_, Int.not_lt.2 h6_, h7_]
            · simp only [go_sem, Nat.reduceAdd, Nat.reduceMul, reduceIte, Nat.reduceLeDiff, Int.reduceLE, Int.reduceLT, Int.reduceToNat, c12, o12_1, o12_2, o12_3, o12_4, Dr.cellsL, Jb.cells, r1, r2, r3, r4, List.length_map, Dr.right, h1_, h2_, h3_, h4_, h5_, Int.not_lt.2 h5_, h6_, Int.not_le.1 h6_]
          · simp only [go_sem, Nat.reduceAdd, Nat.reduceMul, reduceIte, Nat.reduceLeDiff, Int.reduceLE, Int.reduceLT, Int.reduceToNat, c12, o12_1, o12_2, o12_3, o12_4, Dr.cellsL, Jb.cells, r1, r2, r3, r4, List.length_map, Dr.right, h1_, h2_, h3_, h4_, h5_, Int.not_le.1 h5_]
        · simp only [go_sem, Nat.reduceAdd, Nat.reduceMul, reduceIte, Nat.reduceLeDiff, Int.reduceLE, Int.reduceLT, Int.reduceToNat, c12, o12_1, o12_2, o12_3, o12_4, Dr.cellsL, Jb.cells, r1, r2, r3, r4, List.length_map, Dr.right, h1_, h2_, h3_, h4_]
      · simp only [go_sem, Nat.reduceAdd, Nat.reduceMul, reduceIte, Nat.reduceLeDiff, Int.reduceLE, Int.reduceLT, Int.reduceToNat, c12, o12_1, o12_2, o12_3, o12_4, Dr.cellsL, Jb.cells, r1, r2, r3, r4, List.length_map, Dr.right, h1_, h2_, h3_]
    · simp only [go_sem, Nat.reduceAdd, Nat.reduceMul, reduceIte, Nat.reduceLeDiff, Int.reduceLE, Int.reduceLT, Int.reduceToNat, c12, o12_1, o12_2, o12_3, o12_4, Dr.cellsL, Jb.cells, r1, r2, r3, r4, List.length_map, Dr.right, h1_, h2_]
  · simp only [go_sem, Nat.reduceAdd, Nat.reduceMul, reduceIte, Nat.reduceLeDiff, Int.reduceLE, Int.reduceLT, Int.reduceToNat, c12, o12_1, o12_2, o12_3, o12_4, Dr.cellsL, Jb.cells, r1, r2, r3, r4, List.length_map, Dr.right, h1_]
end Go.Proofs.YtefoleocbhkobaaGreatDoor
namespace Go.Proofs.YtefoleocbhkobaaGreatDoor
open Go Go.Ev
set_option linter.unusedSectionVars false
set_option linter.unusedSimpArgs false
set_option linter.unusedVariables false
set_option maxRecDepth 100000 in
set_option maxHeartbeats 16000000 in
theorem dir19_ok {N B : Nat} (d : Dr) (hB : B ≤ 2000000) (hd : d.small B) (hN : 10 * B + 100 ≤ N) : run tab prim glob N 13 [.agg d.cellsL] = some (.bool d.right, []) := by
  obtain ⟨n, rfl⟩ : ∃ n, N = n + 1 := ⟨N - 1, by omega⟩
  rw [enters (fn := c13) rfl]
  obtain ⟨s1, s2, s3, s4, s5, s6, s7⟩ := hd
  have r1 := places15_ok (N := n) d.places (by omega) s1 s2 (by omega)
  have r2 := leaseR16_ok (N := n) d.leases (by omega) (by omega)
  have r3 : run tab prim glob n 38 [.agg [.int .i64 d.mark.wall, .int .i64 d.mark.tick, .int .i64 d.mark.node]] = some (.bool d.mark.right, []) := stampR05_ok (by omega) d.mark
  have r4 := job19_ok (N := n) d.job (by omega) (by omega) (by omega)
  simp only [Jb.cells] at r4
  have r5 := fits_ok (N := n) (by omega) d.next
  have r6 : 2 ≤ d.next → rng 0 1099511627776 d.next = decide (d.next ≤ 1099511627776) := fun h => by
    unfold rng
    rw [decide_eq_true (show 0 ≤ d.next by omega), Bool.true_and]
  have hL1 := fun env H hc hw h => loop13a (n := n) (B := B) d (by omega) s7 (by omega) d.cells d.lows [] [] n env H rfl rfl rfl hc hw (by omega) h
  have hL2 := fun env H h => loop13b (n := n) d (by omega) (by omega) d.opened [] 0 n env H rfl (by omega) (.inl ⟨rfl, rfl⟩) (by omega) h
  generalize hg1 : iter n (evCode ⟨run tab prim glob n, glob⟩ (iter n) b13_1) = g1 at hL1
  generalize hg2 : iter n (evCode ⟨run tab prim glob n, glob⟩ (iter n) b13_2) = g2 at hL2
  by_cases h1_ : placesRight d.places = true
  · by_cases h2_ : leasesRight d.leases = true
    · by_cases h3_ : (d.cells.length : Int) = 3
      · by_cases h4_ : (d.lows.length : Int) = 3
        · by_cases h5_ : 2 ≤ d.next
          · by_cases h6_ : d.next ≤ 1099511627776
            · by_cases h7_ : d.mark.right = true
              · by_cases h8_ : d.job.right = true
                · by_cases h9_ : (d.opened.length : Int) ≤ 8
                  · simp only [go_sem, Nat.reduceAdd, Nat.reduceMul, reduceIte, Nat.reduceLeDiff, Int.reduceLE, Int.reduceLT, Int.reduceToNat, c13, o13_1, o13_2, o13_3, o13_4, Dr.cellsL, Jb.cells, r1, r2, r3, r4, r5, r6, List.length_map, Dr.right, h1_, h2_, h3_, h4_, h5_, Int.not_lt.2 h5_, h6_, Int.not_lt.2 h6_, h7_, h8_, h9_, Int.not_lt.2 h9_, hg1]
                    generalize hE : g1 _ _ = o
                    obtain ⟨ex, env', H', rfl, h5⟩ := Ends.at (fun env H h => hL1 env H (by omega) (by simp; omega) h) hE (by rfl)
                    unfold DrEnds at h5
                    cases hw : cellsFrom d.cells d.lows
                    · rw [hw] at h5
                      obtain ⟨rfl, h6⟩ := h5
                      simp only [go_sem, Nat.reduceAdd, Nat.reduceMul, reduceIte, Nat.reduceLeDiff, Int.reduceLE, Int.reduceLT, Int.reduceToNat, c13, o13_1, o13_2, o13_3, o13_4, Dr.cellsL, Jb.cells, r1, r2, r3, r4, r5, r6, List.length_map, Dr.right, h1_, h2_, h3_, h4_, h5_, Int.not_lt.2 h5_, h6_, Int.not_lt.2 h6_, h7_, h8_, h9_, Int.not_lt.2 h9_, h6, hw]
                    rw [hw] at h5
                    obtain ⟨rfl, h6, h7⟩ := h5
                    simp only [Dr.cellsL, Jb.cells, List.cons_append, List.nil_append] at h7 hL2
                    simp only [go_sem, Nat.reduceAdd, Nat.reduceMul, reduceIte, Nat.reduceLeDiff, Int.reduceLE, Int.reduceLT, Int.reduceToNat, c13, o13_1, o13_2, o13_3, o13_4, Dr.cellsL, Jb.cells, r1, r2, r3, r4, r5, r6, List.length_map, Dr.right, h1_, h2_, h3_, h4_, h5_, Int.not_lt.2 h5_, h6_, Int.not_lt.2 h6_, h7_, h8_, h9_, Int.not_lt.2 h9_, k13_2, ok13_2_1, h6, h7, hw, hg2]
                    generalize hE2 : g2 _ _ = o
                    obtain ⟨ex, env2, H2, rfl, h9⟩ := Ends.at hL2 hE2 (by simp only [go_sem, Nat.reduceAdd, Nat.reduceMul, reduceIte, Nat.reduceLeDiff, Int.reduceLE, Int.reduceLT, Int.reduceToNat, mentL, ment, ment1, evGh, keepE, keepH, h6, h7, List.length_map])
                    cases hr : rowsFrom 0 d.opened
                    · rw [hr] at h9
                      obtain ⟨rfl, h10⟩ := h9
                      simp only [go_sem, Nat.reduceAdd, Nat.reduceMul, reduceIte, Nat.reduceLeDiff, Int.reduceLE, Int.reduceLT, Int.reduceToNat, c13, o13_1, o13_2, o13_3, o13_4, Dr.cellsL, Jb.cells, r1, r2, r3, r4, r5, r6, List.length_map, Dr.right, h1_, h2_, h3_, h4_, h5_, Int.not_lt.2 h5_, h6_, Int.not_lt.2 h6_, h7_, h8_, h9_, Int.not_lt.2 h9_, h10, hr]
                    rw [hr] at h9
                    simp only [if_true] at h9
                    subst h9
                    simp only [go_sem, Nat.reduceAdd, Nat.reduceMul, reduceIte, Nat.reduceLeDiff, Int.reduceLE, Int.reduceLT, Int.reduceToNat, c13, o13_1, o13_2, o13_3, o13_4, Dr.cellsL, Jb.cells, r1, r2, r3, r4, r5, r6, List.length_map, Dr.right, h1_, h2_, h3_, h4_, h5_, Int.not_lt.2 h5_, h6_, Int.not_lt.2 h6_, h7_, h8_, h9_, Int.not_lt.2 h9_, k13_1, ok13_1_1, hr]
                  · simp only [go_sem, Nat.reduceAdd, Nat.reduceMul, reduceIte, Nat.reduceLeDiff, Int.reduceLE, Int.reduceLT, Int.reduceToNat, c13, o13_1, o13_2, o13_3, o13_4, Dr.cellsL, Jb.cells, r1, r2, r3, r4, r5, r6, List.length_map, Dr.right, h1_, h2_, h3_, h4_, h5_, Int.not_lt.2 h5_, h6_, Int.not_lt.2 h6_, h7_, h8_, h9_, Int.not_le.1 h9_]
                · simp only [go_sem, Nat.reduceAdd, Nat.reduceMul, reduceIte, Nat.reduceLeDiff, Int.reduceLE, Int.reduceLT, Int.reduceToNat, c13, o13_1, o13_2, o13_3, o13_4, Dr.cellsL, Jb.cells, r1, r2, r3, r4, r5, r6, List.length_map, Dr.right, h1_, h2_, h3_, h4_, h5_, Int.not_lt.2 h5_, h6_, Int.not_lt.2 h6_, h7_, h8_]
              · simp only [go_sem, Nat.reduceAdd, Nat.reduceMul, reduceIte, Nat.reduceLeDiff, Int.reduceLE, Int.reduceLT, Int.reduceToNat, c13, o13_1, o13_2, o13_3, o13_4, Dr.cellsL, Jb.cells, r1, r2, r3, r4, r5, r6, List.length_map, Dr.right, h1_, h2_, h3_, h4_, h5_, Int.not_lt.2 h5_, h6_, Int.not_lt.2 h6_, h7_]
            · simp only [go_sem, Nat.reduceAdd, Nat.reduceMul, reduceIte, Nat.reduceLeDiff, Int.reduceLE, Int.reduceLT, Int.reduceToNat, c13, o13_1, o13_2, o13_3, o13_4, Dr.cellsL, Jb.cells, r1, r2, r3, r4, r5, r6, List.length_map, Dr.right, h1_, h2_, h3_, h4_, h5_, Int.not_lt.2 h5_, h6_, Int.not_le.1 h6_]
          · simp only [go_sem, Nat.reduceAdd, Nat.reduceMul, reduceIte, Nat.reduceLeDiff, Int.reduceLE, Int.reduceLT, Int.reduceToNat, c13, o13_1, o13_2, o13_3, o13_4, Dr.cellsL, Jb.cells, r1, r2, r3, r4, r5, r6, List.length_map, Dr.right, h1_, h2_, h3_, h4_, h5_, Int.not_le.1 h5_]
        · simp only [go_sem, Nat.reduceAdd, Nat.reduceMul, reduceIte, Nat.reduceLeDiff, Int.reduceLE, Int.reduceLT, Int.reduceToNat, c13, o13_1, o13_2, o13_3, o13_4, Dr.cellsL, Jb.cells, r1, r2, r3, r4, r5, r6, List.length_map, Dr.right, h1_, h2_, h3_, h4_]
      · simp only [go_sem, Nat.reduceAdd, Nat.reduceMul, reduceIte, Nat.reduceLeDiff, Int.reduceLE, Int.reduceLT, Int.reduceToNat, c13, o13_1, o13_2, o13_3, o13_4, Dr.cellsL, Jb.cells, r1, r2, r3, r4, r5, r6, List.length_map, Dr.right, h1_, h2_, h3_]
    · simp only [go_sem, Nat.reduceAdd, Nat.reduceMul, reduceIte, Nat.reduceLeDiff, Int.reduceLE, Int.reduceLT, Int.reduceToNat, c13, o13_1, o13_2, o13_3, o13_4, Dr.cellsL, Jb.cells, r1, r2, r3, r4, r5, r6, List.length_map, Dr.right, h1_, h2_]
  · simp only [go_sem, Nat.reduceAdd, Nat.reduceMul, reduceIte, Nat.reduceLeDiff, Int.reduceLE, Int.reduceLT, Int.reduceToNat, c13, o13_1, o13_2, o13_3, o13_4, Dr.cellsL, Jb.cells, r1, r2, r3, r4, r5, r6, List.length_map, Dr.right, h1_]
end Go.Proofs.YtefoleocbhkobaaGreatDoor
namespace Go.Proofs.YtefoleocbhkobaaGreatDoor
open Go Go.Ev
set_option linter.unusedSectionVars false
set_option linter.unusedSimpArgs false
set_option linter.unusedVariables false
def refZ : List PV := [.nul, .nul, .int .i64 0, .nul, .nul, .int .i64 0, .int .i64 0, .int .i64 0, .int .i64 0, .int .i64 0, .int .i64 0, .int .i64 0, .int .i64 0, .int .i64 0, .int .i64 0, .int .i64 0, .str [], .nul, .int .i64 0, .int .i64 0, .int .i64 0, .str [], .str [], .nul, .int .i64 0, .int .i64 0, .int .i64 0, .nul, .nul]
def refX (d : Dr) (a b : PV) : List PV := [.ro (d.places.map Pl.cells), a, .int .i64 d.next, .ro (d.leases.map Le.cells), .ro (d.lows.map St.cells), .int .i64 d.mark.wall, .int .i64 d.mark.tick, .int .i64 d.mark.node] ++ d.job.cells ++ [b]
theorem loop9a {n : Nat} (d : Dr) (hl : d.cells.length ≤ 1000000000) : ∀ (rest pre : List Inf) (m : Nat) (env : Env) (H : Heap), d.cells = pre ++ rest → rest.length + 1 ≤ m →
    evGh (.keep [1, 2, 3, 22, 23, 24] [100001, 100002, 100003, 400301]) env H = some ([(1, .ptr 100001 0), (2, .ptr 100002 0), (3, .ptr 100003 0), (22, .ro (d.cells.map infRow)), (23, .int .i64 d.cells.length), (24, .int .i64 pre.length)],
      [(100001, .box d.cellsL), (100002, .box refZ), (100003, .box (refX d (.own 400301 0 pre.length pre.length) .nul)), (400301, .arr 3 (pre.map infRow))]) →
    iter m (evCode ⟨run tab prim glob n, glob⟩ (iter n) b9_1) env H = some (.exit 0, [(25, .bool false), (1, .ptr 100001 0), (2, .ptr 100002 0), (3, .ptr 100003 0), (22, .ro (d.cells.map infRow)), (23, .int .i64 d.cells.length), (24, .int .i64 d.cells.length)],
      [(100001, .box d.cellsL), (100002, .box refZ), (100003, .box (refX d (.own 400301 0 d.cells.length d.cells.length) .nul)), (400301, .arr 3 (d.cells.map infRow))])
  | [], pre, m + 1, env, H, hp, hm, hk => by
    have e0 : pre = d.cells := by rw [hp]; simp
    subst e0
    rw [iter_step]
    generalize iter m (evCode ⟨run tab prim glob n, glob⟩ (iter n) b9_1) = g
    simp only [b9_1, ob9_1_1, ob9_1_2, ob9_1_3, ob9_1_4, hk, go_sem, Nat.reduceAdd, Nat.reduceMul, reduceIte, Nat.reduceLeDiff, Int.reduceLE, Int.reduceLT, Int.reduceToNat, Int.lt_irrefl, afterIt]
  | x :: rest, pre, m + 1, env, H, hp, hm, hk => by
    have e0 : pre.length < d.cells.length := by rw [hp]; simp
    have e1 : (pre.length : Int) < (d.cells.length : Int) := by omega
    have e2 : (0 : Int) ≤ (pre.length : Int) := by omega
    have e3 : (d.cells.map infRow)[pre.length]? = some [.int .i64 x.view, .ro (x.members.map rowI), .bool x.whole] := by rw [hp]; simp [infRow]
    have e4 : IntKind.i64.wrap ((pre.length : Int) + 1) = ((pre.length + 1 : Nat) : Int) := cast_add (by omega)
    have e5 : ¬ pre.length + 1 ≤ pre.length := by omega
    have e6 : (pre.length + 1) * 40 ≤ 140737488355328 := by omega
    have ih := loop9a (n := n) d hl rest (pre ++ [x]) m
    rw [iter_step]
    generalize iter m (evCode ⟨run tab prim glob n, glob⟩ (iter n) b9_1) = g at ih ⊢
    simp only [refX, Jb.cells, List.cons_append, List.nil_append, List.length_append, List.length_cons, List.length_nil, List.map_append, List.map_cons, List.map_nil] at hk ih ⊢
    simp only [b9_1, ob9_1_1, ob9_1_2, ob9_1_3, ob9_1_4, hk, go_sem, Nat.reduceAdd, Nat.reduceMul, reduceIte, Nat.reduceLeDiff, Int.reduceLE, Int.reduceLT, Int.reduceToNat, e1, e2, e3, e4, e5, e6, List.length_map, Nat.beq_refl, afterIt]
    exact ih _ _ (by rw [hp]; simp) (by simp at hm; omega) rfl
theorem loop9b {n : Nat} (d : Dr) (hl : d.opened.length ≤ 1000000000) : ∀ (rest pre : List Rw) (m : Nat) (env : Env) (H : Heap), d.opened = pre ++ rest → rest.length + 1 ≤ m →
    evGh (.keep [2, 3, 36, 37, 38] [100001, 100002, 100003, 100005, 100031, 100032, 400301, 400328]) env H = some ([(2, .ptr 100002 0), (3, .ptr 100003 0), (36, .ro (d.opened.map Rw.cells)), (37, .int .i64 d.opened.length), (38, .int .i64 pre.length)],
      [(100001, .box d.cellsL), (100002, .box refZ), (100003, .box (refX d (.own 400301 0 d.cells.length d.cells.length) (.own 400328 0 pre.length pre.length))), (400301, .arr 3 (d.cells.map infRow)), (400328, .arr 7 (pre.map Rw.cells))]) →
    iter m (evCode ⟨run tab prim glob n, glob⟩ (iter n) b9_2) env H = some (.exit 2, [(39, .bool false), (2, .ptr 100002 0), (3, .ptr 100003 0), (36, .ro (d.opened.map Rw.cells)), (37, .int .i64 d.opened.length), (38, .int .i64 d.opened.length)],
      [(100001, .box d.cellsL), (100002, .box refZ), (100003, .box (refX d (.own 400301 0 d.cells.length d.cells.length) (.own 400328 0 d.opened.length d.opened.length))), (400301, .arr 3 (d.cells.map infRow)), (400328, .arr 7 (d.opened.map Rw.cells))])
  | [], pre, m + 1, env, H, hp, hm, hk => by
    have e0 : pre = d.opened := by rw [hp]; simp
    subst e0
    rw [iter_step]
    generalize iter m (evCode ⟨run tab prim glob n, glob⟩ (iter n) b9_2) = g
    simp only [b9_2, ob9_2_1, ob9_2_2, ob9_2_3, ob9_2_4, hk, go_sem, Nat.reduceAdd, Nat.reduceMul, reduceIte, Nat.reduceLeDiff, Int.reduceLE, Int.reduceLT, Int.reduceToNat, Int.lt_irrefl, afterIt]
  | x :: rest, pre, m + 1, env, H, hp, hm, hk => by
    have e0 : pre.length < d.opened.length := by rw [hp]; simp
    have e1 : (pre.length : Int) < (d.opened.length : Int) := by omega
    have e2 : (0 : Int) ≤ (pre.length : Int) := by omega
    have e3 : (d.opened.map Rw.cells)[pre.length]? = some [.int .i64 x.client, .int .i64 x.req, .int .i64 x.lease, .int .i64 x.tm.wall, .int .i64 x.tm.tick, .int .i64 x.tm.node, .int .i64 x.err] := by rw [hp]; simp [Rw.cells]
    have e4 : IntKind.i64.wrap ((pre.length : Int) + 1) = ((pre.length + 1 : Nat) : Int) := cast_add (by omega)
    have e5 : ¬ pre.length + 1 ≤ pre.length := by omega
    have e6 : (pre.length + 1) * 56 ≤ 140737488355328 := by omega
    have ih := loop9b (n := n) d hl rest (pre ++ [x]) m
    rw [iter_step]
    generalize iter m (evCode ⟨run tab prim glob n, glob⟩ (iter n) b9_2) = g at ih ⊢
    simp only [refX, Jb.cells, List.cons_append, List.nil_append, List.length_append, List.length_cons, List.length_nil, List.map_append, List.map_cons, List.map_nil] at hk ih ⊢
    simp only [b9_2, ob9_2_1, ob9_2_2, ob9_2_3, ob9_2_4, hk, go_sem, Nat.reduceAdd, Nat.reduceMul, reduceIte, Nat.reduceLeDiff, Int.reduceLE, Int.reduceLT, Int.reduceToNat, e1, e2, e3, e4, e5, e6, List.length_map, Nat.beq_refl, afterIt]
    exact ih _ _ (by rw [hp]; simp) (by simp at hm; omega) rfl
set_option maxHeartbeats 4000000 in
theorem ref_ok {N : Nat} (d : Dr) (hc : d.cells.length ≤ 2000000) (ho : d.opened.length ≤ 2000000) (hN : d.cells.length + d.opened.length + 10 ≤ N) : run tab prim glob N 9 [.agg d.cellsL] = some (.agg d.cellsL, []) := by
  obtain ⟨n, rfl⟩ : ∃ n, N = n + 1 := ⟨N - 1, by omega⟩
  rw [enters (fn := c9) rfl]
  have hL1 := fun env H h => loop9a (n := n) d (by omega) d.cells [] n env H rfl (by omega) h
  have hL2 := fun env H h => loop9b (n := n) d (by omega) d.opened [] n env H rfl (by omega) h
  generalize hg1 : iter n (evCode ⟨run tab prim glob n, glob⟩ (iter n) b9_1) = g1 at hL1
  generalize hg2 : iter n (evCode ⟨run tab prim glob n, glob⟩ (iter n) b9_2) = g2 at hL2
  simp only [Dr.cellsL, refX, refZ, Jb.cells, List.cons_append, List.nil_append] at hL1 hL2 ⊢
  simp only [c9, o9_1, o9_2, o9_3, o9_4, o9_5, go_sem, Nat.reduceAdd, Nat.reduceMul, reduceIte, Nat.reduceLeDiff, Int.reduceLE, Int.reduceLT, Int.reduceToNat, mentL, ment, ment1, evGh, keepE, keepH, hg1, List.set_cons_zero, List.set_cons_succ]
  rw [hL1 _ _ (by simp only [go_sem, Nat.reduceAdd, Nat.reduceMul, reduceIte, Nat.reduceLeDiff, Int.reduceLE, Int.reduceLT, Int.reduceToNat, mentL, ment, ment1, evGh, keepE, keepH, List.length_map])]
  simp only [go_sem, Nat.reduceAdd, Nat.reduceMul, reduceIte, Nat.reduceLeDiff, Int.reduceLE, Int.reduceLT, Int.reduceToNat, mentL, ment, ment1, evGh, keepE, keepH, hg2, List.set_cons_zero, List.set_cons_succ]
  rw [hL2 _ _ (by simp only [go_sem, Nat.reduceAdd, Nat.reduceMul, reduceIte, Nat.reduceLeDiff, Int.reduceLE, Int.reduceLT, Int.reduceToNat, mentL, ment, ment1, evGh, keepE, keepH, List.length_map])]
  have t1 : List.take d.cells.length (List.map infRow d.cells) = List.map infRow d.cells := List.take_of_length_le (by simp)
  have t2 : List.take d.opened.length (List.map Rw.cells d.opened) = List.map Rw.cells d.opened := List.take_of_length_le (by simp)
  simp only [go_sem, Nat.reduceAdd, Nat.reduceMul, reduceIte, Nat.reduceLeDiff, Int.reduceLE, Int.reduceLT, Int.reduceToNat, mentL, ment, ment1, evGh, keepE, keepH, List.length_map, Nat.beq_refl, t1, t2]
end Go.Proofs.YtefoleocbhkobaaGreatDoor
namespace Go.Ev
open Go
set_option linter.unusedSectionVars false
set_option linter.unusedSimpArgs false
set_option linter.unusedVariables false
inductive Sh where
  | int (k : IntKind)
  | bool
  | str
  | slice (row : List Sh)
def repS (l : List Sh) : Nat → List Sh
  | 0 => []
  | n + 1 => l ++ repS l n
def shapesF (P : Program) (g : TypeId → Option (List Sh)) : List Field → Nat → Option (List Sh)
  | [], _ => some []
  | f :: r, off => match g f.type with
    | some l => match Nat.beq f.offset off, Nat.beq (P.cellsOf f.type) l.length, shapesF P g r (off + l.length) with
      | true, true, some m => some (l ++ m)
      | _, _, _ => none
    | none => none
def shapes (P : Program) : Nat → TypeId → Option (List Sh)
  | 0, _ => none
  | n + 1, t => match P.underlying t with
    | some .bool => some [.bool]
    | some (.int k) => some [.int k]
    | some .string => some [.str]
    | some (.slice e) => match shapes P n e with
      | some (s :: r) => match Nat.beq (P.cellsOf e) (r.length + 1) with
        | true => some [.slice (s :: r)]
        | false => none
      | _ => none
    | some (.struct fs) => match shapesF P (shapes P n) fs.toList 0 with
      | some l => match Nat.beq (P.cellsOf t) l.length with
        | true => some l
        | false => none
      | none => none
    | some (.array k e) => match shapes P n e with
      | some l => match Nat.beq (P.cellsOf e) l.length, Nat.beq (P.cellsOf t) (k * l.length) with
        | true, true => some (repS l k)
        | _, _ => none
      | none => none
    | _ => none
inductive Fit : Sh → PV → Prop where
  | int (k : IntKind) (n : Int) (h : (Lit.int k n).wf = true) : Fit (.int k) (.int k n)
  | bool (b : Bool) : Fit .bool (.bool b)
  | str (s : List UInt8) : Fit .str (.str s)
  | slice (row : List Sh) (rows : List (List PV)) (h1 : ∀ r ∈ rows, r.length = row.length) (h2 : ∀ r ∈ rows, ∀ (i : Nat) (s : Sh) (p : PV), row[i]? = some s → r[i]? = some p → Fit s p) : Fit (.slice row) (.ro rows)
def FitL (row : List Sh) (r : List PV) : Prop := r.length = row.length ∧ ∀ (i : Nat) (s : Sh) (p : PV), row[i]? = some s → r[i]? = some p → Fit s p
theorem FitL.nil : FitL [] [] := ⟨rfl, fun i s p h => by simp at h⟩
theorem FitL.one {s : Sh} {p : PV} (h : Fit s p) : FitL [s] [p] := ⟨rfl, fun i s' p' h1 h2 => by
  cases i with
  | zero => simp at h1 h2; subst h1; subst h2; exact h
  | succ i => simp at h1⟩
theorem FitL.append {a b : List Sh} {x y : List PV} (h : FitL a x) (h' : FitL b y) : FitL (a ++ b) (x ++ y) := by
  refine ⟨by simp [h.1, h'.1], fun i s p h1 h2 => ?_⟩
  rw [List.getElem?_append] at h1 h2
  rw [h.1] at h2
  split at h1
  · rename_i hi; rw [if_pos hi] at h2; exact h.2 i s p h1 h2
  · rename_i hi; rw [if_neg hi] at h2; exact h'.2 _ s p h1 h2
theorem FitL.cons {s : Sh} {row : List Sh} {r : List PV} (h : FitL (s :: row) r) : ∃ p q, r = p :: q ∧ Fit s p ∧ FitL row q := by
  cases r with
  | nil => cases h.1
  | cons p q => exact ⟨p, q, rfl, h.2 0 s p rfl rfl, by simpa using h.1, fun i s p h1 h2 => h.2 (i + 1) s p (by simpa using h1) (by simpa using h2)⟩
theorem FitL.done {r : List PV} (h : FitL [] r) : r = [] := by simpa using h.1
theorem Fit.rows {row : List Sh} {p : PV} (h : Fit (.slice row) p) : ∃ rows, p = .ro rows ∧ ∀ r ∈ rows, FitL row r := by
  cases h with
  | slice _ rows h1 h2 => exact ⟨rows, rfl, fun r hr => ⟨h1 r hr, h2 r hr⟩⟩
theorem Fit.rowsOf {X : Type} {row : List Sh} {p : PV} (cells : X → List PV) (hx : ∀ r, FitL row r → ∃ x, r = cells x) (h : Fit (.slice row) p) : ∃ xs : List X, p = .ro (xs.map cells) := by
  obtain ⟨rows, rfl, hr⟩ := h.rows
  clear h
  suffices ∃ xs : List X, rows = xs.map cells by obtain ⟨xs, rfl⟩ := this; exact ⟨xs, rfl⟩
  induction rows with
  | nil => exact ⟨[], rfl⟩
  | cons r rows ih =>
    obtain ⟨xs, rfl⟩ := ih fun r h => hr r (.tail _ h)
    obtain ⟨x, rfl⟩ := hx r (hr r (.head _))
    exact ⟨x :: xs, rfl⟩
mutual
def dcells {H : Type} : DataW H → List PV
  | .lit (.int k n) => [.int k n]
  | .lit (.bool b) => [.bool b]
  | .lit (.string s) => [.str s]
  | .nil => [.ro []]
  | .slice elems _ => [.ro (drows elems)]
  | .agg parts => dcellsL parts
  | _ => [.any]
def dcellsL {H : Type} : List (DataW H) → List PV
  | [] => []
  | d :: r => dcells d ++ dcellsL r
def drows {H : Type} : List (DataW H) → List (List PV)
  | [] => []
  | d :: r => dcells d :: drows r
end
theorem drows_map {H : Type} : ∀ l : List (DataW H), drows l = l.map dcells
  | [] => rfl
  | d :: r => by simp only [drows, drows_map r, List.map_cons]
abbrev noX : Nat → Prop := fun _ => False
def RepC (w : World) (cs : List Value) (pvs : List PV) : Prop := ∀ (i : Nat) (pv : PV), pvs[i]? = some pv → ∃ v, cs[i]? = some v ∧ v.oneCell' = true ∧ Rep w noX noRefs pv v
theorem RepC.one {w : World} {v : Value} {pv : PV} (h1 : v.oneCell' = true) (h : Rep w noX noRefs pv v) : RepC w [v] [pv] := fun i p hp => by
  cases i with
  | zero => simp at hp; subst hp; exact ⟨v, rfl, h1, h⟩
  | succ i => simp at hp
section
variable {H : Type} {enc : TypeId × Value → H} {P : Program} {w : World} {base : Nat} {spare : Nat → Bool} {held : Bool}
def OpenAt (P : Program) (w : World) (g : TypeId → List Value → Option (DataW H × List MemPlace)) (t : TypeId) (l : List Sh) : Prop :=
  ∀ cs d ps, g t cs = some (d, ps) → FitL l (dcells d) ∧ cs.length = l.length ∧ RepC w cs (dcells d)
theorem open_fields {g : TypeId → List Value → Option (DataW H × List MemPlace)} {sh : TypeId → Option (List Sh)} (hg : ∀ t l, sh t = some l → OpenAt P w g t l) :
    ∀ (fs : List Field) (off : Nat) (m : List Sh) (xs : List (DataW H × List MemPlace)) (cs : List Value), shapesF P sh fs off = some m → xs.length = fs.length →
      (∀ (i : Nat) (f : Field), fs[i]? = some f → g f.type ((cs.drop f.offset).take (P.cellsOf f.type)) = xs[i]?) →
      FitL m (dcellsL (xs.map (·.1))) ∧ off + m.length ≤ max off cs.length ∧ RepC w (cs.drop off) (dcellsL (xs.map (·.1)))
  | [], off, m, xs, cs, hm, hl, _ => by
    simp only [shapesF] at hm; cases hm
    have : xs = [] := by simpa using hl
    subst this
    exact ⟨.nil, by simp; omega, fun i p hp => by simp [dcellsL] at hp⟩
  | f :: fs, off, m, [], cs, hm, hl, _ => by simp at hl
  | f :: fs, off, m, (d, ps) :: xs, cs, hm, hl, hx => by
    simp only [shapesF] at hm
    split at hm <;> first | (cases hm; done) | skip
    rename_i l hsh
    split at hm <;> cases hm
    rename_i m' h1 h2 h3
    have e1 := Nat.eq_of_beq_eq_true h1
    have e2 := Nat.eq_of_beq_eq_true h2
    have h0 := hx 0 f rfl
    obtain ⟨a1, a2, a3⟩ := hg _ _ hsh _ d ps (by simpa using h0)
    obtain ⟨b1, b2, b3⟩ := open_fields hg fs (off + l.length) m' xs cs h3 (by simpa using hl) (fun i f' hf => by simpa using hx (i + 1) f' (by simpa using hf))
    simp only [List.map_cons, dcellsL]
    refine ⟨a1.append b1, ?_, fun i p hp => ?_⟩
    · simp only [List.length_take, List.length_drop, List.length_append] at a2 ⊢
      omega
    · rw [List.getElem?_append] at hp
      split at hp
      · rename_i hi
        obtain ⟨v, c1, c2, c3⟩ := a3 i p hp
        refine ⟨v, ?_, c2, c3⟩
        rw [List.getElem?_take] at c1
        split at c1
        · rw [e1] at c1; exact c1
        · cases c1
      · rename_i hi
        obtain ⟨v, c1, c2, c3⟩ := b3 _ p hp
        refine ⟨v, ?_, c2, c3⟩
        rw [List.getElem?_drop] at c1 ⊢
        rw [← c1]
        congr 1
        have := a1.1
        omega
theorem open_elems {g : TypeId → List Value → Option (DataW H × List MemPlace)} {e : TypeId} {l : List Sh} (hg : OpenAt P w g e l) (hc : P.cellsOf e = l.length) :
    ∀ (k off : Nat) (xs : List (DataW H × List MemPlace)) (cs : List Value), xs.length = k → (∀ i, i < k → g e ((cs.drop (off + i * P.cellsOf e)).take (P.cellsOf e)) = xs[i]?) →
      FitL (repS l k) (dcellsL (xs.map (·.1))) ∧ RepC w (cs.drop off) (dcellsL (xs.map (·.1)))
  | 0, off, xs, cs, hl, _ => by
    have : xs = [] := by simpa using hl
    subst this
    exact ⟨.nil, fun i p hp => by simp [dcellsL] at hp⟩
  | k + 1, off, [], cs, hl, _ => by simp at hl
  | k + 1, off, (d, ps) :: xs, cs, hl, hx => by
    have h0 := hx 0 (by omega)
    rw [Nat.zero_mul, Nat.add_zero] at h0
    obtain ⟨a1, a2, a3⟩ := hg _ d ps (by simpa using h0)
    obtain ⟨b1, b3⟩ := open_elems hg hc k (off + P.cellsOf e) xs cs (by simpa using hl) (fun i hi => by
      have := hx (i + 1) (by omega)
      rw [show off + P.cellsOf e + i * P.cellsOf e = off + (i + 1) * P.cellsOf e by rw [Nat.add_mul]; omega]
      simpa using this)
    simp only [List.map_cons, dcellsL, repS]
    refine ⟨a1.append b1, fun i p hp => ?_⟩
    rw [List.getElem?_append] at hp
    split at hp
    · rename_i hi
      obtain ⟨v, c1, c2, c3⟩ := a3 i p hp
      refine ⟨v, ?_, c2, c3⟩
      rw [List.getElem?_take] at c1
      split at c1
      · exact c1
      · cases c1
    · rename_i hi
      obtain ⟨v, c1, c2, c3⟩ := b3 _ p hp
      refine ⟨v, ?_, c2, c3⟩
      rw [List.getElem?_drop] at c1 ⊢
      rw [← c1]
      congr 1
      have := a1.1
      omega
theorem add_add (a : Addr) (h : a.spot = none) (n : Nat) : a.add n = ⟨a.block, a.off + n, none⟩ := by
  unfold Addr.add
  split
  · cases a; simp_all
  · rfl
theorem open_trod : ∀ (fuel : Nat) (t : TypeId) (n : Nat) (l : List Sh), shapes P n t = some l → OpenAt P w (DataW.trod enc P w base spare held fuel) t l
  | 0, t, n, l, _ => fun cs d ps h => by simp [DataW.trod] at h
  | fuel + 1, t, 0, l, hs => by simp [shapes] at hs
  | fuel + 1, t, n + 1, l, hs => by
    intro cs d ps h
    simp only [shapes] at hs
    split at hs <;> first | (cases hs; done) | skip
    · rename_i ht
      cases hs
      obtain ⟨b, rfl, e⟩ := DataW.trod_bool ht h
      cases e
      exact ⟨.one (.bool b), rfl, .one rfl (.bool _ b)⟩
    · rename_i k ht
      cases hs
      obtain ⟨q, rfl, e, hw⟩ := DataW.trod_int ht h
      cases e
      exact ⟨.one (.int k q hw), rfl, .one rfl (.int _ k q)⟩
    · rename_i ht
      cases hs
      obtain ⟨s, rfl, e, _⟩ := DataW.trod_string ht h
      cases e
      refine ⟨.one (.str _), rfl, .one rfl ?_⟩
      have : s = ⟨s.data.toList.toArray⟩ := by cases s; simp
      rw [this]
      exact .str _ _
    · rename_i e ht
      split at hs <;> first | (cases hs; done) | skip
      rename_i s r he
      split at hs <;> cases hs
      rename_i hb
      have hc := Nat.eq_of_beq_eq_true hb
      rcases DataW.trod_slice ht h with ⟨rfl, e⟩ | ⟨a, len, cap, elems, rest, m, hm, rfl, e, hba, hl1, hl2, hel, hE, _, _⟩
      · cases e
        exact ⟨.one (.slice _ _ (fun r hr => by cases hr) (fun r hr => by cases hr)), rfl, .one rfl (.ro0 _ _ _)⟩
      · cases e
        cases hm
        have hI : ∀ i, i < len → ∃ x cs', elems[i]? = some x ∧ w.cells? base (a.add (i * P.cellsOf e)) (P.cellsOf e) = some cs' ∧ DataW.trod enc P w base spare held fuel e cs' = some x := by
          intro i hi
          have := hE i hi
          rw [List.getElem?_eq_getElem (by omega)] at this ⊢
          obtain ⟨cs', c1, c2⟩ := Option.bind_eq_some_iff.1 this
          exact ⟨_, cs', rfl, c1, c2⟩
        have hrow : ∀ (i : Nat) (x : DataW H × List MemPlace), elems[i]? = some x → i < len ∧ FitL (s :: r) (dcells x.1) ∧ ∃ cs', w.cells? base (a.add (i * P.cellsOf e)) (P.cellsOf e) = some cs' ∧ RepC w cs' (dcells x.1) := by
          intro i x hx
          have hi : i < len := by rw [← hel]; exact (List.getElem?_eq_some_iff.1 hx).1
          obtain ⟨x', cs', e1, e2, e3⟩ := hI i hi
          rw [hx] at e1; cases e1
          obtain ⟨q1, q2, q3⟩ := open_trod fuel e n (s :: r) he cs' x.1 x.2 e3
          exact ⟨hi, q1, cs', e2, q3⟩
        have hfit : Fit (.slice (s :: r)) (.ro (drows (elems.map (·.1)))) := by
          rw [drows_map]
          have : ∀ q ∈ (elems.map (·.1)).map dcells, FitL (s :: r) q := by
            intro q hq
            simp only [List.map_map, List.mem_map] at hq
            obtain ⟨x, hx, rfl⟩ := hq
            obtain ⟨i, hi, hx⟩ := List.mem_iff_getElem.1 hx
            exact (hrow i x (by rw [← hx]; simp [hi])).2.1
          exact .slice _ _ (fun q hq => (this q hq).1) (fun q hq => (this q hq).2)
        refine ⟨.one hfit, rfl, .one rfl ?_⟩
        cases hz : len with
        | zero =>
          rw [hz] at hel
          have : elems = [] := by simpa using hel
          subst this
          exact .ro0 _ _ _
        | succ len' =>
          obtain ⟨x0, cs0, y1, y2, y3⟩ := hI 0 (by omega)
          obtain ⟨_, z1, z2⟩ := World.cells?_some y2
          have hcell : ∃ v, w.cell? a = some v := by
            have := z2 0 (by omega)
            rw [List.getElem?_eq_getElem (by omega)] at this
            have e0 : (a.add (0 * P.cellsOf e)).add 0 = a := by simp [Addr.add]
            rw [e0] at this
            exact ⟨_, this⟩
          obtain ⟨v0, hv0⟩ := hcell
          have hsp := World.cell?_spot hv0
          have hsz : a.block < w.heap.size := by
            have := World.cells?_block y2 (by omega)
            simpa [Addr.add] using this
          obtain ⟨blk, off, spot⟩ := a
          simp only at hsp hsz
          subst hsp
          rw [← hz]
          have hlen : (drows (elems.map (·.1))).length = len := by rw [drows_map]; simp [hel]
          have key : ∀ (i : Nat) (row : List PV) (j : Nat) (pv : PV), (drows (elems.map (·.1)))[i]? = some row → row[j]? = some pv → ∃ v, cellAt w blk (off + i * P.cellsOf e + j) = some v ∧ v.oneCell' = true ∧ Rep w noX noRefs pv v := by
            intro i row j pv hi hj
            rw [drows_map] at hi
            simp only [List.map_map, List.getElem?_map, Option.map_eq_some_iff] at hi
            obtain ⟨x, hx, rfl⟩ := hi
            obtain ⟨hi, hf, cs', h1, h2⟩ := hrow i x hx
            obtain ⟨v, v1, v2, v3⟩ := h2 j pv hj
            refine ⟨v, ?_, v2, v3⟩
            obtain ⟨_, u1, u2⟩ := World.cells?_some h1
            have hjl : j < P.cellsOf e := by rw [← u1]; exact (List.getElem?_eq_some_iff.1 v1).1
            have := u2 j hjl
            rw [add_add (⟨blk, off, none⟩ : Addr) rfl (i * P.cellsOf e), add_add _ rfl j, cell?_eq, v1] at this
            exact this
          have := Rep.ro (w := w) (X := noX) noRefs blk off (P.cellsOf e) (drows (elems.map (·.1))) cap (fun i j => (cellAt w blk (off + i * P.cellsOf e + j)).getD Go.undef) (fun h => h) hsz (by omega)
            (fun i row hi => by
              rw [drows_map] at hi
              simp only [List.map_map, List.getElem?_map, Option.map_eq_some_iff] at hi
              obtain ⟨x, hx, rfl⟩ := hi
              rw [hc]
              exact (hrow i x hx).2.1.1)
            (fun i row j pv hi hj => by
              obtain ⟨v, v1, v2, _⟩ := key i row j pv hi hj
              rw [v1]
              exact ⟨rfl, v2⟩)
            (fun i row j pv hi hj => by
              obtain ⟨v, v1, _, v3⟩ := key i row j pv hi hj
              simp only [v1]
              exact v3)
          rwa [hlen] at this
    · rename_i fs ht
      split at hs <;> first | (cases hs; done) | skip
      rename_i m hm
      split at hs <;> cases hs
      rename_i hb
      have hc := Nat.eq_of_beq_eq_true hb
      obtain ⟨xs, q, hq, e, h1, h2, h3⟩ := DataW.trod_struct ht h
      cases e
      cases hq
      obtain ⟨a1, _, a3⟩ := open_fields (fun t l => open_trod fuel t n l) fs.toList 0 _ xs cs hm (by simpa using h2) (fun i f hf => h3 i f (by simpa using hf))
      exact ⟨by simpa only [dcells] using a1, by omega, by simpa only [dcells, List.drop_zero] using a3⟩
    · rename_i k e ht
      split at hs <;> first | (cases hs; done) | skip
      rename_i m hm
      split at hs <;> cases hs
      rename_i hb1 hb2
      have hc1 := Nat.eq_of_beq_eq_true hb1
      have hc2 := Nat.eq_of_beq_eq_true hb2
      obtain ⟨xs, q, hq, e1, hl, hxs, hE⟩ := DataW.trod_array ht h
      cases e1
      cases hq
      obtain ⟨a1, a3⟩ := open_elems (open_trod fuel e n m hm) hc1 k 0 xs cs hxs (fun i hi => by simpa using hE i hi)
      refine ⟨by simpa only [dcells] using a1, ?_, by simpa only [dcells, List.drop_zero] using a3⟩
      have : ∀ k, (repS m k).length = k * m.length := by
        intro k
        induction k with
        | zero => simp [repS]
        | succ k ih => simp only [repS, List.length_append, ih, Nat.add_mul]; omega
      rw [this]; omega
end
end Go.Ev
namespace Go.Proofs.YtefoleocbhkobaaGreatDoor
open Go Go.Ev
set_option linter.unusedSectionVars false
set_option linter.unusedSimpArgs false
set_option linter.unusedVariables false
inductive Bd (M : Nat) : PV → Prop where
  | str (s : List UInt8) (h : s.length ≤ M) : Bd M (.str s)
  | ro (rows : List (List PV)) (h1 : rows.length ≤ M) (h2 : ∀ r ∈ rows, ∀ p ∈ r, Bd M p) : Bd M (.ro rows)
  | int (k : IntKind) (n : Int) : Bd M (.int k n)
  | bool (b : Bool) : Bd M (.bool b)
  | any : Bd M .any
theorem Bd.strs {M : Nat} {s : List UInt8} (h : Bd M (.str s)) : s.length ≤ M := by cases h; assumption
theorem Bd.rows {M : Nat} {X : Type} {c : X → List PV} {l : List X} (h : Bd M (.ro (l.map c))) : l.length ≤ M ∧ ∀ x ∈ l, ∀ p ∈ c x, Bd M p := by
  cases h with
  | ro _ h1 h2 => exact ⟨by simpa using h1, fun x hx => h2 _ (List.mem_map_of_mem hx)⟩
mutual
theorem bd_cells {H : Type} {M : Nat} : ∀ d : DataW H, Rows.uptoBulk d ≤ M → ∀ p ∈ dcells d, Bd M p
  | .lit (.int k n), _ => by simp only [dcells, List.mem_singleton]; rintro p rfl; exact .int k n
  | .lit (.bool b), _ => by simp only [dcells, List.mem_singleton]; rintro p rfl; exact .bool b
  | .lit (.string s), h => by
    simp only [Rows.uptoBulk] at h
    simp only [dcells, List.mem_singleton]; rintro p rfl; exact .str s (by omega)
  | .lit (.float _ _), _ => by simp only [dcells, List.mem_singleton]; rintro p rfl; exact .any
  | .lit .nil, _ => by simp only [dcells, List.mem_singleton]; rintro p rfl; exact .any
  | .nil, _ => by simp only [dcells, List.mem_singleton]; rintro p rfl; exact .ro [] (Nat.zero_le _) (fun r hr => by cases hr)
  | .ptr _, _ => by simp only [dcells, List.mem_singleton]; rintro p rfl; exact .any
  | .iface _ _, _ => by simp only [dcells, List.mem_singleton]; rintro p rfl; exact .any
  | .map _, _ => by simp only [dcells, List.mem_singleton]; rintro p rfl; exact .any
  | .held _, _ => by simp only [dcells, List.mem_singleton]; rintro p rfl; exact .any
  | .slice elems spare, h => by
    simp only [Rows.uptoBulk] at h
    simp only [dcells, List.mem_singleton]; rintro p rfl
    obtain ⟨h1, h2⟩ := bd_rows (M := M) elems (by omega)
    exact .ro _ h1 h2
  | .agg parts, h => by
    simp only [Rows.uptoBulk] at h
    simp only [dcells]
    exact bd_cellsL parts (by omega)
theorem bd_cellsL {H : Type} {M : Nat} : ∀ l : List (DataW H), Rows.uptoBulkAll l ≤ M → ∀ p ∈ dcellsL l, Bd M p
  | [], _ => by simp [dcellsL]
  | d :: r, h => by
    simp only [Rows.uptoBulkAll] at h
    simp only [dcellsL, List.mem_append]
    rintro p (hp | hp)
    · exact bd_cells d (by omega) p hp
    · exact bd_cellsL r (by omega) p hp
theorem bd_rows {H : Type} {M : Nat} : ∀ l : List (DataW H), Rows.uptoBulkAll l ≤ M → (drows l).length ≤ M ∧ ∀ r ∈ drows l, ∀ p ∈ r, Bd M p
  | [], _ => ⟨Nat.zero_le _, fun r hr => by cases hr⟩
  | d :: l, h => by
    simp only [Rows.uptoBulkAll] at h
    have h1 := bulk_len (d :: l)
    simp only [Rows.uptoBulkAll] at h1
    obtain ⟨_, h3⟩ := bd_rows l (M := M) (by omega)
    refine ⟨by rw [drows_map]; simp only [List.length_map]; omega, ?_⟩
    simp only [drows, List.mem_cons]
    rintro r (rfl | hr)
    · exact bd_cells d (by omega)
    · exact h3 r hr
theorem bulk_len {H : Type} : ∀ l : List (DataW H), l.length ≤ Rows.uptoBulkAll l
  | [] => Nat.zero_le _
  | d :: r => by
    have := bulk_len r
    have := bulk_one d
    simp only [Rows.uptoBulkAll, List.length_cons]; omega
theorem bulk_one {H : Type} : ∀ d : DataW H, 1 ≤ Rows.uptoBulk d
  | .lit (.string _) => by simp [Rows.uptoBulk]
  | .lit (.int _ _) | .lit (.bool _) | .lit (.float _ _) | .lit .nil | .nil | .held _ => by simp [Rows.uptoBulk]
  | .ptr _ | .iface _ _ | .map _ | .slice _ _ | .agg _ => by simp [Rows.uptoBulk]
end
section
variable {H : Type} {enc : TypeId × Value → H} {P : Program} {w : World} {base : Nat} {spare : Nat → Bool} {held : Bool}
theorem rep_agg {cs : Array Value} {pvs : List PV} (hl : cs.size = pvs.length) (h : RepC w cs.toList pvs) : Rep w noX noRefs (.agg pvs) (.agg cs) := by
  refine .agg noRefs pvs cs hl (fun i v hv => ?_) (fun i pv v hp hv => ?_)
  · have hi : i < pvs.length := by rw [← hl]; exact (Array.getElem?_eq_some_iff.1 hv).1
    obtain ⟨u, h1, h2, _⟩ := h i pvs[i] (List.getElem?_eq_getElem hi)
    rw [Array.getElem?_toList, hv] at h1; cases h1; exact h2
  · obtain ⟨u, h1, _, h3⟩ := h i pv hp
    rw [Array.getElem?_toList, hv] at h1; cases h1; exact h3
theorem arg_agg {t : TypeId} {fs : Array Field} {n : Nat} {l : List Sh} {v : Value} {d : DataW H} {p : List MemPlace} {w' : World} {b : Nat} (ht : P.underlying t = some (.struct fs)) (hs : shapes P n t = some l)
    (hok : Value.okWide P w' .any b t v) (h : DataW.Trod enc P w base spare held t v d p) : FitL l (dcells d) ∧ CellR w noX (.agg (dcells d)) v [] := by
  simp only [Value.okWide, ht] at hok
  obtain ⟨cs, rfl, _, _⟩ := hok
  obtain ⟨fuel, hf⟩ := h
  obtain ⟨h1, h2, h3⟩ := open_trod fuel t n l hs cs.toList d p hf
  exact ⟨h1, .plain _ _ rfl (rep_agg (by rw [h1.1]; simpa using h2) h3)⟩
theorem var_rep {name : String} {g : Nat} {t : TypeId} {n : Nat} {l : List Sh} {cs : Array Value} {fuel : Nat} {d : DataW H} {p : List MemPlace} (hg : P.globalNamed name = some g)
    (hs : shapes P n t = some l) (hv : w.var? P name = some cs) (h : DataW.trod enc P w base spare held fuel t cs.toList = some (d, p)) : Rep w noX noRefs (.rptr (dcells d)) (.pointer (some ⟨g, 0, none⟩)) := by
  obtain ⟨h1, h2, h3⟩ := open_trod fuel t n l hs cs.toList d p h
  simp only [World.var?, hg, Option.bind_some] at hv
  split at hv <;> cases hv
  rename_i ty fr hw
  have hsz : g < w.heap.size := (Array.getElem?_eq_some_iff.1 hw).1
  have hc : ∀ (i : Nat) (pv : PV), (dcells d)[i]? = some pv → ∃ v, cellAt w g (0 + i) = some v ∧ v.oneCell' = true ∧ Rep w noX noRefs pv v := by
    intro i pv hi
    obtain ⟨v, v1, v2, v3⟩ := h3 i pv hi
    refine ⟨v, ?_, v2, v3⟩
    unfold cellAt
    rw [hw]
    simpa using v1
  refine .rptr noRefs g 0 (dcells d) (fun i => (cellAt w g (0 + i)).getD Go.undef) (fun h => h) hsz (fun i pv hi => ?_) (fun i pv hi => ?_)
  · obtain ⟨v, v1, v2, _⟩ := hc i pv hi
    rw [v1]; exact ⟨rfl, v2⟩
  · obtain ⟨v, v1, _, v3⟩ := hc i pv hi
    simp only [v1]; exact v3
end
end Go.Proofs.YtefoleocbhkobaaGreatDoor

/-
  More bytes than may be are refused.
-/
import Derived.Test.YtcnipahcheooiaaT2
namespace Go.Proofs.Ytcnipahcheooiaa
open Go Go.Ev
set_option linter.unusedSectionVars false
set_option linter.unusedSimpArgs false
set_option linter.unusedVariables false

theorem full_arg (n : Nat) (f m : Int) (h1 : -128 ≤ f) (h2 : f ≤ 127) (h : 1048512 + f > 1048576) : run tab prim glob (n + 8) 3 [.int .i8 f, .int .i8 m] = some (.bool true, []) := by
  obtain ⟨k, hk⟩ : ∃ k : Nat, 1048512 + f = k := ⟨(1048512 + f).toNat, by omega⟩
  have w0 : IntKind.i64.wrap f = f := IntWalk.i64_in _ (by omega)
  have w1 : IntKind.i64.wrap (k : Int) = k := IntWalk.i64_in _ (by omega)
  have k1 : (0 : Int) < k := by omega
  have k2 : (k : Int) * ((1 : Nat) : Int) ≤ 140737488355328 := by omega
  have k3 : ((k : Int) > 1048576) = True := by simp <;> omega
  have hz := zeros_bytes k
  have hA : run tab prim glob (n + 7) 4 [tape (List.replicate k 0) [], .str []] = _ := append_arg (n + 4) (List.replicate k 0) [] [] (by simp; omega) (by simp; omega)
  have hR : run tab prim glob (n + 7) 5 [tape (List.replicate k 0) []] = _ := right_no (n + 6) (List.replicate k 0) [] (by simp; omega) (by simp; omega)
  have hW : run tab prim glob (n + 7) 6 [] = _ := awake_ok (n + 2)
  rw [enters (n := n + 7) (fn := c3) rfl]
  simp only [tape] at hA hR
  simp only [c3, evFn, enter, enterC, evCode, evOps, evOpsD, evOp, wants, opd, opds, getT, put, mcells, cellV, hget, hset, hsets, rdc, fillc, splice, binv, unv, intBin, eqcells, eqk, Ev.flip, isnil, leave, gives1, give1, mov1, movC, lentOf, lends, getR, List.map_cons, List.map_nil, clo, clo2, clo2s, cloP, cloPs, cloL, clo1, args1, arg1, evCall, back, frz, flatv, flat2, flat2L, flatL, flat1, frees, hasAll, adoptR, adopt, adoptL, takeL, deads, newIds, memN, apartN, nodupN, sameLen, apartAll, apartFP, keys, rowOf, rowsOf, rowsIn, szOK, isStrV, bytesOf, within, bound, validO, shifts, mentL, ment, ment1, evGh, keepE, keepH, List.getElem?_cons_succ, List.getElem?_cons_zero, List.getElem?_nil, Nat.add_zero, Nat.zero_add, Nat.reduceAdd, Nat.reduceMul, List.drop_succ_cons, List.drop_zero, List.drop_nil, List.take_succ_cons, List.take_zero, List.take_nil, List.length_cons, List.length_nil, List.nil_append, List.cons_append, List.append_nil, List.filter_nil, List.filter_cons, Option.map_some, Option.map_none, if_true, if_false, reduceIte, decide_true, decide_false, Bool.not_true, Bool.not_false, beq_self_eq_true, eq_self, Bool.and_true, Bool.true_and, Bool.false_and, Bool.and_false, w0, hk, w1, k1, k2, k3, Int.le_refl, Int.toNat_natCast, List.length_replicate, Nat.beq_refl, List.take_replicate, Nat.min_self, hz, hA, hR, hW]

theorem full_full (n : Nat) (f m : Int) (h1 : -128 ≤ f) (h2 : f ≤ 127) (g1 : -128 ≤ m) (g2 : m ≤ 127) (h : 1048512 + f ≤ 1048576) (g : 1048512 + f + (m + 128) > 1048576) : run tab prim glob (n + 8) 3 [.int .i8 f, .int .i8 m] = some (.bool true, []) := by
  obtain ⟨k, hk⟩ : ∃ k : Nat, 1048512 + f = k := ⟨(1048512 + f).toNat, by omega⟩
  obtain ⟨q, hq⟩ : ∃ q : Nat, m + 128 = q := ⟨(m + 128).toNat, by omega⟩
  have w0 : IntKind.i64.wrap f = f := IntWalk.i64_in _ (by omega)
  have w1 : IntKind.i64.wrap (k : Int) = k := IntWalk.i64_in _ (by omega)
  have w2 : IntKind.i64.wrap m = m := IntWalk.i64_in _ (by omega)
  have w3 : IntKind.i64.wrap (q : Int) = q := IntWalk.i64_in _ (by omega)
  have w4 : IntKind.i64.wrap ((k : Int) + q) = k + q := IntWalk.i64_in _ (by omega)
  have k1 : (0 : Int) < k := by omega
  have k2 : (k : Int) * ((1 : Nat) : Int) ≤ 140737488355328 := by omega
  have k3 : ((k : Int) > 1048576) = False := by simp <;> omega
  have k4 : ((k : Int) + q > 1048576) = True := by simp <;> omega
  have q1 : (0 : Int) < q := by omega
  have q2 : (q : Int) * ((1 : Nat) : Int) ≤ 140737488355328 := by omega
  have q3 : ((0 : Int) > q) = False := by simp <;> omega
  have hz := zeros_bytes k
  have hz2 := zeros_bytes q
  have hA : run tab prim glob (n + 7) 4 [tape (List.replicate k 0) [], .str (List.replicate q 0)] = _ := append_full (n + 4) (List.replicate k 0) [] (List.replicate q 0) (by simp; omega) (by simp; omega) (by simp; omega)
  have hW : run tab prim glob (n + 7) 6 [] = _ := awake_ok (n + 2)
  rw [enters (n := n + 7) (fn := c3) rfl]
  simp only [tape] at hA
  simp only [c3, evFn, enter, enterC, evCode, evOps, evOpsD, evOp, wants, opd, opds, getT, put, mcells, cellV, hget, hset, hsets, rdc, fillc, splice, binv, unv, intBin, eqcells, eqk, Ev.flip, isnil, leave, gives1, give1, mov1, movC, lentOf, lends, getR, List.map_cons, List.map_nil, clo, clo2, clo2s, cloP, cloPs, cloL, clo1, args1, arg1, evCall, back, frz, flatv, flat2, flat2L, flatL, flat1, frees, hasAll, adoptR, adopt, adoptL, takeL, deads, newIds, memN, apartN, nodupN, sameLen, apartAll, apartFP, keys, rowOf, rowsOf, rowsIn, szOK, isStrV, bytesOf, within, bound, validO, shifts, mentL, ment, ment1, evGh, keepE, keepH, List.getElem?_cons_succ, List.getElem?_cons_zero, List.getElem?_nil, Nat.add_zero, Nat.zero_add, Nat.reduceAdd, Nat.reduceMul, List.drop_succ_cons, List.drop_zero, List.drop_nil, List.take_succ_cons, List.take_zero, List.take_nil, List.length_cons, List.length_nil, List.nil_append, List.cons_append, List.append_nil, List.filter_nil, List.filter_cons, Option.map_some, Option.map_none, if_true, if_false, reduceIte, decide_true, decide_false, Bool.not_true, Bool.not_false, beq_self_eq_true, eq_self, Bool.and_true, Bool.true_and, Bool.false_and, Bool.and_false, w0, hk, w1, w2, hq, w3, w4, k1, k2, k3, k4, q1, q2, q3, intsOf, mostOf, Int.le_refl, Int.toNat_natCast, List.length_replicate, Nat.beq_refl, List.take_replicate, Nat.min_self, hz, hz2, hA, hW]

theorem full_ok (n : Nat) (f m : Int) (h1 : -128 ≤ f) (h2 : f ≤ 127) (g1 : -128 ≤ m) (g2 : m ≤ 127) (h : 1048512 + f ≤ 1048576) (g : ¬ 1048512 + f + (m + 128) > 1048576) : run tab prim glob (n + 8) 3 [.int .i8 f, .int .i8 m] = some (.bool true, []) := by
  obtain ⟨k, hk⟩ : ∃ k : Nat, 1048512 + f = k := ⟨(1048512 + f).toNat, by omega⟩
  obtain ⟨q, hq⟩ : ∃ q : Nat, m + 128 = q := ⟨(m + 128).toNat, by omega⟩
  have w0 : IntKind.i64.wrap f = f := IntWalk.i64_in _ (by omega)
  have w1 : IntKind.i64.wrap (k : Int) = k := IntWalk.i64_in _ (by omega)
  have w2 : IntKind.i64.wrap m = m := IntWalk.i64_in _ (by omega)
  have w3 : IntKind.i64.wrap (q : Int) = q := IntWalk.i64_in _ (by omega)
  have w4 : IntKind.i64.wrap ((k : Int) + q) = k + q := IntWalk.i64_in _ (by omega)
  have k1 : (0 : Int) < k := by omega
  have k2 : (k : Int) * ((1 : Nat) : Int) ≤ 140737488355328 := by omega
  have k3 : ((k : Int) > 1048576) = False := by simp <;> omega
  have k4 : ((k : Int) + q > 1048576) = False := by simp <;> omega
  have q2 : (q : Int) * ((1 : Nat) : Int) ≤ 140737488355328 := by omega
  have q3 : ((0 : Int) > q) = False := by simp <;> omega
  have hz := zeros_bytes k
  have hz2 := zeros_bytes q
  have hA : run tab prim glob (n + 7) 4 [tape (List.replicate k 0) [], .str (List.replicate q 0)] = _ := append_ok (n + 4) (List.replicate k 0) [] (List.replicate q 0) (by simp; omega)
  have hR : run tab prim glob (n + 7) 5 [tape (List.replicate k 0) (List.replicate q 0)] = _ := right_ok (n + 6) (List.replicate k 0) (List.replicate q 0) (by simp; omega)
  have hW : run tab prim glob (n + 7) 6 [] = _ := awake_ok (n + 2)
  rw [enters (n := n + 7) (fn := c3) rfl]
  simp only [tape, List.nil_append] at hA hR
  rcases Nat.eq_zero_or_pos q with hq0 | hq0
  · subst hq0
    have q1 : ¬ ((0 : Int) < ((0 : Nat) : Int)) := by omega
    have q4 : (((0 : Nat) : Int) = 0) = True := by simp
    simp only [List.replicate_zero] at hA hR hz2
    simp only [c3, evFn, enter, enterC, evCode, evOps, evOpsD, evOp, wants, opd, opds, getT, put, mcells, cellV, hget, hset, hsets, rdc, fillc, splice, binv, unv, intBin, eqcells, eqk, Ev.flip, isnil, leave, gives1, give1, mov1, movC, lentOf, lends, getR, List.map_cons, List.map_nil, clo, clo2, clo2s, cloP, cloPs, cloL, clo1, args1, arg1, evCall, back, frz, flatv, flat2, flat2L, flatL, flat1, frees, hasAll, adoptR, adopt, adoptL, takeL, deads, newIds, memN, apartN, nodupN, sameLen, apartAll, apartFP, keys, rowOf, rowsOf, rowsIn, szOK, isStrV, bytesOf, within, bound, validO, shifts, mentL, ment, ment1, evGh, keepE, keepH, List.getElem?_cons_succ, List.getElem?_cons_zero, List.getElem?_nil, Nat.add_zero, Nat.zero_add, Nat.reduceAdd, Nat.reduceMul, List.drop_succ_cons, List.drop_zero, List.drop_nil, List.take_succ_cons, List.take_zero, List.take_nil, List.length_cons, List.length_nil, List.nil_append, List.cons_append, List.append_nil, List.filter_nil, List.filter_cons, Option.map_some, Option.map_none, if_true, if_false, reduceIte, decide_true, decide_false, Bool.not_true, Bool.not_false, beq_self_eq_true, eq_self, Bool.and_true, Bool.true_and, Bool.false_and, Bool.and_false, w0, hk, w1, w2, hq, w3, w4, k1, k2, k3, k4, q1, q2, q3, q4, intsOf, mostOf, Int.le_refl, Int.toNat_natCast, List.length_replicate, Nat.beq_refl, List.take_replicate, Nat.min_self, List.replicate_zero, hz, hz2, hA, hR, hW]
  · have q1 : (0 : Int) < q := by omega
    simp only [c3, evFn, enter, enterC, evCode, evOps, evOpsD, evOp, wants, opd, opds, getT, put, mcells, cellV, hget, hset, hsets, rdc, fillc, splice, binv, unv, intBin, eqcells, eqk, Ev.flip, isnil, leave, gives1, give1, mov1, movC, lentOf, lends, getR, List.map_cons, List.map_nil, clo, clo2, clo2s, cloP, cloPs, cloL, clo1, args1, arg1, evCall, back, frz, flatv, flat2, flat2L, flatL, flat1, frees, hasAll, adoptR, adopt, adoptL, takeL, deads, newIds, memN, apartN, nodupN, sameLen, apartAll, apartFP, keys, rowOf, rowsOf, rowsIn, szOK, isStrV, bytesOf, within, bound, validO, shifts, mentL, ment, ment1, evGh, keepE, keepH, List.getElem?_cons_succ, List.getElem?_cons_zero, List.getElem?_nil, Nat.add_zero, Nat.zero_add, Nat.reduceAdd, Nat.reduceMul, List.drop_succ_cons, List.drop_zero, List.drop_nil, List.take_succ_cons, List.take_zero, List.take_nil, List.length_cons, List.length_nil, List.nil_append, List.cons_append, List.append_nil, List.filter_nil, List.filter_cons, Option.map_some, Option.map_none, if_true, if_false, reduceIte, decide_true, decide_false, Bool.not_true, Bool.not_false, beq_self_eq_true, eq_self, Bool.and_true, Bool.true_and, Bool.false_and, Bool.and_false, w0, hk, w1, w2, hq, w3, w4, k1, k2, k3, k4, q1, q2, q3, intsOf, mostOf, Int.le_refl, Int.toNat_natCast, List.length_replicate, Nat.beq_refl, List.take_replicate, Nat.min_self, hz, hz2, hA, hR, hW]

theorem law (n : Nat) (f m : Int) (h1 : -128 ≤ f) (h2 : f ≤ 127) (g1 : -128 ≤ m) (g2 : m ≤ 127) : run tab prim glob (n + 8) 3 [.int .i8 f, .int .i8 m] = some (.bool true, []) := by
  by_cases h : 1048512 + f > 1048576
  · exact full_arg n f m h1 h2 h
  · by_cases g : 1048512 + f + (m + 128) > 1048576
    · exact full_full n f m h1 h2 g1 g2 (by omega) g
    · exact full_ok n f m h1 h2 g1 g2 (by omega) g

end Go.Proofs.Ytcnipahcheooiaa

/-
  A new list of choices.
-/
import Derived.Test.YtjfdjendaagccaaNext
namespace Go.Proofs.Ytjfdjendaagccaa
open Go Go.Proofs Go.Proofs.Ae
set_option linter.unusedSimpArgs false
set_option linter.unusedVariables false
set_option linter.unnecessarySimpa false

theorem fn5 : C0.fn 5 = some { ntmps := 15, results := [.tmp 4], body := (Try.f5.body).getD .skip, live := liveTab 5 } := by kernel_rfl

theorem encB_take (L : List UInt8) (n : Nat) : (encB L).take n = encB (L.take n) := by simp [encB, List.map_take]

theorem new_call (m : Nat) (L : List UInt8) (n : Nat) :
    aCall C0 (m + 20) 5 [.fs (encB L) L.length none, .sc (.int .i64 n)] [] = some (.ret (.ptr 0 0 2), [codesO (L.take n) 0]) := by
  unfold aCall
  simp only [fn5]
  simp only [Try.f5, Option.getD_some, List.length_cons, List.length_nil, List.cons_append, List.nil_append, Nat.reduceAdd, Nat.reduceSub, List.replicate, codesO]
  by_cases h1 : (L.length : Int) > n
  · have h2 : n ≤ L.length := by omega
    have h3 : (L.take n).length = n := by simp; omega
    simp (maxSteps := 1000000) (disch := first | ((with_reducible show List.length _ = _); simp only [List.length_cons, List.length_nil, Nat.reduceAdd]; rfl) | ((with_reducible show quietRegion _ _ _ = true); decide +kernel) | ((with_reducible show aGc _ _ _ _ = _); exact id (by kernel_rfl)) | ((with_reducible show (edgesOk _ _ && pairsOk _ _ _) = true); exact id (by kernel_rfl))) only [aCode_seq, aCode_ops, aCode_cnd, aCode_skip, aCode_exit, aCode_ret, aCode_block, aCode_quiet, aOps_n, aOps_c, aWanted, aEval, ofVal, ofVal1, aPut_some, aPut_none, applyP_nil, applyP_cons,
    st_move, st_assign, st_load, st_store, st_fieldAddr, st_field, st_indexAddr, st_index, st_slice, st_build, st_pick, st_nilCheck, st_extract, st_binOp, st_unOp, st_convert, st_len, st_alloc, st_box, st_buildSlice, st_makeSlice, st_makeFunc, st_append,
    qr_some, rr_some, binV, unV, storeV, nilV, pickV, extV, intBin, loadV, mkV, storeW, fieldAddrV, fieldV, partV, idxS, idxA, lenS, sliceW, bnd, aBox, aNew, newSlice, appendV, srcCells, freeIdx, firstDead, AVal.cells, ld3, ld5, ld22, ld27, ld29, ld37, ld43, so3, so27, so37, so43, fa45_0, fa45_1, fa37_1, fa43_0, fa43_1, ix22, ix26, ix29, ix27, ln22, ln26, ln29, sl22, sl26, ap26, ap29, al27, al37, al43, cv53, bd43, bd45, bd37, bs29, bs26, AVal.oneCell, AVal.known,
    aResults, aResult, oneOr, List.set_cons_zero, List.set_cons_succ, List.getD_eq_getElem?_getD, List.getElem?_cons_succ, List.getElem?_cons_zero, List.getElem?_nil, Option.getD_some, List.getElem?_toArray, List.drop, List.take, List.drop_zero, List.take_zero, List.length_cons, List.length_nil,
    List.nil_append, List.cons_append, List.append_nil, List.map, List.all_cons, List.all_nil, List.replicate, Option.map_some, Option.map_none,
    ↓reduceIte, Nat.reduceAdd, Nat.reduceSub, Nat.reduceMul, Nat.reducePow, Nat.reduceLeDiff, Nat.reduceLT, Nat.reduceEqDiff, Nat.zero_add, Nat.add_zero, Nat.mul_one, Nat.zero_mul, Int.reduceLT, Int.reduceLE, Int.reduceToNat, Int.reduceNeg,
    decide_eq_true_eq, decide_true, decide_false, Bool.false_eq_true, Bool.not_true, Bool.not_false, beqTT, beqTF, beqFT, beqFF, beq_self_eq_true, Bool.and_self, and_self, and_true, true_and, not_true_eq_false, not_false_eq_true, Int.toNat_natCast, Int.natCast_nonneg, Int.cast_ofNat_Int, if_true, if_false, ite_true, ite_false, Option.isSome_none, Option.isSome_some, Option.getD_none, false_implies, forall_const, Bool.or_self, Option.map_none, h1, h2, h3, bd45, encB_take, Nat.le_refl, Nat.zero_le, Nat.sub_zero, Int.ofNat_zero, Int.natCast_zero]
  · have h3 : L.take n = L := List.take_of_length_le (by omega)
    simp (maxSteps := 1000000) (disch := first | ((with_reducible show List.length _ = _); simp only [List.length_cons, List.length_nil, Nat.reduceAdd]; rfl) | ((with_reducible show quietRegion _ _ _ = true); decide +kernel) | ((with_reducible show aGc _ _ _ _ = _); exact id (by kernel_rfl)) | ((with_reducible show (edgesOk _ _ && pairsOk _ _ _) = true); exact id (by kernel_rfl))) only [aCode_seq, aCode_ops, aCode_cnd, aCode_skip, aCode_exit, aCode_ret, aCode_block, aCode_quiet, aOps_n, aOps_c, aWanted, aEval, ofVal, ofVal1, aPut_some, aPut_none, applyP_nil, applyP_cons,
    st_move, st_assign, st_load, st_store, st_fieldAddr, st_field, st_indexAddr, st_index, st_slice, st_build, st_pick, st_nilCheck, st_extract, st_binOp, st_unOp, st_convert, st_len, st_alloc, st_box, st_buildSlice, st_makeSlice, st_makeFunc, st_append,
    qr_some, rr_some, binV, unV, storeV, nilV, pickV, extV, intBin, loadV, mkV, storeW, fieldAddrV, fieldV, partV, idxS, idxA, lenS, sliceW, bnd, aBox, aNew, newSlice, appendV, srcCells, freeIdx, firstDead, AVal.cells, ld3, ld5, ld22, ld27, ld29, ld37, ld43, so3, so27, so37, so43, fa45_0, fa45_1, fa37_1, fa43_0, fa43_1, ix22, ix26, ix29, ix27, ln22, ln26, ln29, sl22, sl26, ap26, ap29, al27, al37, al43, cv53, bd43, bd45, bd37, bs29, bs26, AVal.oneCell, AVal.known,
    aResults, aResult, oneOr, List.set_cons_zero, List.set_cons_succ, List.getD_eq_getElem?_getD, List.getElem?_cons_succ, List.getElem?_cons_zero, List.getElem?_nil, Option.getD_some, List.getElem?_toArray, List.drop, List.take, List.drop_zero, List.take_zero, List.length_cons, List.length_nil,
    List.nil_append, List.cons_append, List.append_nil, List.map, List.all_cons, List.all_nil, List.replicate, Option.map_some, Option.map_none,
    ↓reduceIte, Nat.reduceAdd, Nat.reduceSub, Nat.reduceMul, Nat.reducePow, Nat.reduceLeDiff, Nat.reduceLT, Nat.reduceEqDiff, Nat.zero_add, Nat.add_zero, Nat.mul_one, Nat.zero_mul, Int.reduceLT, Int.reduceLE, Int.reduceToNat, Int.reduceNeg,
    decide_eq_true_eq, decide_true, decide_false, Bool.false_eq_true, Bool.not_true, Bool.not_false, beqTT, beqTF, beqFT, beqFF, beq_self_eq_true, Bool.and_self, and_self, and_true, true_and, not_true_eq_false, not_false_eq_true, Int.toNat_natCast, Int.natCast_nonneg, Int.cast_ofNat_Int, if_true, if_false, ite_true, ite_false, Option.isSome_none, Option.isSome_some, Option.getD_none, false_implies, forall_const, Bool.or_self, Option.map_none, h1, h3, bd45, Int.ofNat_zero, Int.natCast_zero]

theorem new_core (m : Nat) (h : AHeap) (L : List UInt8) (n : Nat) :
    aCore (aCall C0 (m + 20)) 5 [.fs (encB L) L.length none, .sc (.int .i64 n)] h = some (.ret (.ptr h.length 0 2), [(h.length, codesO (L.take n) 0)]) := by
  rw [aCore_nil (args2 := [.fs (encB L) L.length none, .sc (.int .i64 n)]) rfl (by simp [mapVL, mapV, relocIn, canS]), new_call m L n]
  simp [aBack, mapEnd, mapV, relocOut, outIdx, mapObjs, mapObj, mapVL, codesO, pushes]

end Go.Proofs.Ytjfdjendaagccaa

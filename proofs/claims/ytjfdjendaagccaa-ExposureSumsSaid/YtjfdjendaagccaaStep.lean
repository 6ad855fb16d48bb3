/-
  The later rounds of the statement's own loop.
-/
import Derived.Test.YtjfdjendaagccaaMain
namespace Go.Proofs.Ytjfdjendaagccaa
open Go Go.Proofs Go.Proofs.Ae
set_option linter.unusedSimpArgs false
set_option linter.unusedVariables false
set_option linter.unnecessarySimpa false

theorem encY_snoc (l : List (List (Int × Int))) (rs : List (Int × Int)) : encY (l ++ [rs]) = encY l ++ [.sc (.int .i64 0), .sc (.int .i64 0), .sc (.int .i64 0), .sc (.bool false), .sc (.string .empty), .sc (.int .i64 0), .fs (encR rs) rs.length none] := by
  rw [encY_append]; rfl

/-- where a reply is put into a row -/
def ins (tn : List (List (Int × Int))) (q : Nat) (rs : List (Int × Int)) : List (List (Int × Int)) := tn.take q ++ [rs] ++ tn.drop q

set_option maxHeartbeats 1000000 in
theorem main_step (m n : Nat) {L : List UInt8} (hl : L.length ≤ 1000) (p k : Nat) (hk : k ≤ 100) (l tn : List (List (Int × Int))) (w1 w2 : Bool) (a : Nat) (hla : l.length = a) (hta : tn.length = a) (ha1 : 1 ≤ a) (ha : a ≤ 90)
    (hb : (binsOf l).length ≤ 100000) (q : Nat) (hq : nextV L (reasonsF L p).2 ((a : Int) + 1) = q) (hqa : q ≤ a) :
    roundTo mgi (loopB Try.f3 0) (aCode C0 (aCall C0 (m + 400)) mgi (n + 100) (loopB Try.f3 0) [.top, .top, .top, .ptr 0 0 2, .ms 1 0 a 7 a false, .ms 2 0 a 7 a false, .ptr 3 0 7, .sc (.int .i64 (k + 1 : Nat)), .top, .top, .top, .top, .top, .top, .top, .top, .top, .top, .top, .top, .top, .top, .top, .top, .top, .top, .top, .top, .top, .top, .top, .top, .top, .top, .top, .top, .top, .top, .top, .top, .top, .top, .top, .top, .top, .top, .top, .top, .top, .top, .top, .top, .top, .top, .top, .top, .top, .top, .top, .top, .top, .top, .top, .top, .top, .top, .top, .top, .top, .top, .top, .top, .top, .top, .top, .top, .top, .top, .top, .top, .top]
      [codesO L p, .arr (encY l) w1, .arr (encY tn) w2, .arr (encI (hist (binsOf l))) true]) =
      some ([.top, .top, .top, .ptr 0 0 2, .ms 1 0 (a + 1) 7 (a + 1) false, .ms 2 0 (a + 1) 7 (a + 1) false, .ptr 3 0 7, .sc (.int .i64 k), .top, .top, .top, .top, .top, .top, .top, .top, .top, .top, .top, .top, .top, .top, .top, .top, .top, .top, .top, .top, .top, .top, .top, .top, .top, .top, .top, .top, .top, .top, .top, .top, .top, .top, .top, .top, .top, .top, .top, .top, .top, .top, .top, .top, .top, .top, .top, .top, .top, .top, .top, .top, .top, .top, .top, .top, .top, .top, .top, .top, .top, .top, .top, .top, .top, .top, .top, .top, .top, .top, .top, .top, .top],
        [codesO L (nextK L (reasonsF L p).2 ((a : Int) + 1)), .arr (encY (l ++ [(reasonsF L p).1])) false, .arr (encY (ins tn q (reasonsF L p).1)) false, .arr (encI (hist (binsOf (l ++ [(reasonsF L p).1])))) true]) := by
  have hr := reasonsF_length L p
  revert hq
  generalize hrs : reasonsF L p = r at hr
  obtain ⟨rs, p1⟩ := r
  simp only at hr ⊢
  intro hq
  have nx := next_inv (m + 380) ((a : Int) + 1) (by omega) hl p1
  rw [hq] at nx
  have rv := reasons_inv (m + 300) hl p
  rw [hrs] at rv
  have sv := fun (h : AHeap) (l : Nat) => sum_inv m (rs := rs) (by omega) (h := h) (l := l)
  have h1 : ((k + 1 : Nat) : Int) > 0 := by omega
  have x1 : IntKind.i64.wrap (((k + 1 : Nat) : Int) - 1) = k := by rw [wrap_i64 (by omega) (by omega)]; omega
  have x2 : IntKind.i64.wrap ((a : Int) + 1) = (a : Int) + 1 := wrap_i64 (by omega) (by omega)
  have hbn : ((rs.length : Int) != (rs.length : Int)) = false := by simp
  have hh : (encI (hist (binsOf [rs]))).length = 7 := by simp [encI, hist_length]
  have e1 : (encY l).length = a * 7 := by rw [encY_length, hla]
  have e2 : (encY tn).length = a * 7 := by rw [encY_length, hta]
  have a1 : (a + 1) * 80 ≤ 1099511627776 := by omega
  have a2 : a + 1 ≤ 1099511627776 := by omega
  have a3 : ¬ (a + 1 ≤ a) := by omega
  have hsum : hist (binsOf (l ++ [rs])) = hist (binsOf l ++ binsOf [rs]) := by rw [binsOf_append]
  have hloop := fun (w2' : Bool) => tot_enter (aCall C0 (m + 400)) L (nextK L p1 ((a : Int) + 1)) (l ++ [rs]) (ins tn q rs) rs false w2' (a + 1) ((k + 1 : Nat) : Int) (binsOf l) hb (by omega)
  rw [hsum]
  by_cases hq0 : q = 0
  · subst hq0
    have hloop := hloop false
    have b1 : List.take (a * 7) (encY tn) = encY tn := List.take_of_length_le (by omega)
    have b2 : ¬ (a = 0) := by omega
    have b3 : 1 + a = a + 1 := by omega
    have b4 : ¬ (a + 1 ≤ 1) := by omega
    have b5 : encY (ins tn 0 rs) = [.sc (.int .i64 0), .sc (.int .i64 0), .sc (.int .i64 0), .sc (.bool false), .sc (.string .empty), .sc (.int .i64 0), .fs (encR rs) rs.length none] ++ encY tn := by simp [ins, encY, encY1]
    simp only [Try.f3, loopB, loopsOf, Option.getD_some, List.nil_append, List.append_nil, List.cons_append, List.getElem?_cons_zero, List.getElem?_cons_succ, List.getElem?_nil, codesO] at hloop
    simp only [Try.f3, loopB, loopsOf, Option.getD_some, List.nil_append, List.append_nil, List.cons_append, List.getElem?_cons_zero, List.getElem?_cons_succ, List.getElem?_nil, codesO]
    simp (maxSteps := 1000000) (disch := first | ((with_reducible show aGc _ _ _ _ = _); with_unfolding_all exact aGc_at (live := [3, 4, 5, 6, 7, 8, 10, 11, 12]) (L := [0, 1, 8, 3, 4, 9]) (by kernel_rfl) (by kernel_rfl) (by decide) (by kernel_rfl) (.cons rfl (flat_arr _ rfl) (.cons (by rw [encY_snoc]; rfl) (flat_arr _ (encY_locs _)) (.cons (by rw [b5]; rfl) (flat_arr _ (encY_locs _)) (.cons rfl (flat_arr _ (encI_locs _)) (.cons rfl (flat_arr _ rfl) (.cons rfl (flat_arr _ (encI_locs _)) .nil))))))) | (with_unfolding_all exact (rfl : (_ : Option AObj) = _)) | ((with_reducible show List.length _ = _); simp only [List.length_cons, List.length_nil, Nat.reduceAdd]; rfl) | ((with_reducible show quietRegion _ _ _ = true); decide +kernel) | ((with_reducible show (edgesOk _ _ && pairsOk _ _ _) = true); exact id (by kernel_rfl))) only [aCode_seq, aCode_ops, aCode_cnd, aCode_skip, aCode_exit, aCode_ret, aCode_block, aCode_quiet, aOps_n, aOps_c, aWanted, aEval, ofVal, ofVal1, aPut_some, aPut_none, applyP_nil, applyP_cons,
    st_move, st_assign, st_load, st_store, st_fieldAddr, st_field, st_indexAddr, st_index, st_slice, st_build, st_pick, st_nilCheck, st_extract, st_binOp, st_unOp, st_convert, st_len, st_alloc, st_box, st_buildSlice, st_makeSlice, st_makeFunc, st_append,
    qr_some, rr_some, binV, unV, storeV, nilV, pickV, extV, intBin, loadV, mkV, storeW, fieldAddrV, fieldV, partV, idxS, idxA, lenS, sliceW, bnd, aBox, aNew, newSlice, appendV, srcCells, freeIdx, firstDead, AVal.cells, ld3, ld5, ld22, ld27, ld29, ld37, ld43, so3, so27, so37, so43, fa45_0, fa45_1, fa37_1, fa43_0, fa43_1, ix22, ix26, ix29, ix27, ln22, ln26, ln29, sl22, sl26, ap26, ap29, al27, al37, al43, cv53, bd43, bd45, bd37, bs29, bs26, AVal.oneCell, AVal.known,
    aResults, aResult, oneOr, List.set_cons_zero, List.set_cons_succ, List.getD_eq_getElem?_getD, List.getElem?_cons_succ, List.getElem?_cons_zero, List.getElem?_nil, Option.getD_some, List.getElem?_toArray, List.drop, List.take, List.drop_zero, List.take_zero, List.length_cons, List.length_nil,
    List.nil_append, List.cons_append, List.append_nil, List.map, List.all_cons, List.all_nil, List.replicate, Option.map_some, Option.map_none,
    ↓reduceIte, Nat.reduceAdd, Nat.reduceSub, Nat.reduceMul, Nat.reducePow, Nat.reduceLeDiff, Nat.reduceLT, Nat.reduceEqDiff, Nat.zero_add, Nat.add_zero, Nat.mul_one, Nat.zero_mul, Int.reduceLT, Int.reduceLE, Int.reduceToNat, Int.reduceNeg,
    decide_eq_true_eq, decide_true, decide_false, Bool.false_eq_true, Bool.not_true, Bool.not_false, beqTT, beqTF, beqFT, beqFF, beq_self_eq_true, Bool.and_self, and_self, and_true, true_and, not_true_eq_false, not_false_eq_true, Int.toNat_natCast, Int.natCast_nonneg, Int.cast_ofNat_Int, if_true, if_false, ite_true, ite_false, Option.isSome_none, Option.isSome_some, Option.getD_none, false_implies, forall_const, Bool.or_self, Option.map_none, h1, x1, x2, nx, rv, sv, hloop, hbn, hh, e1, e2, a1, a2, a3, b1, b2, b3, b4, encI_one, encY_one, st_call fn6, st_call fn7, st_call fn8, bd37, bs26, aCode_drawK (id := 12), drawK_n, drawK_c, withSlots, nSlots, ak_move, ak_assign, ak_pick, ak_binOp, ak_unOp, ak_nilCheck, ak_fieldAddr, ak_field, ak_indexAddr, ak_index, ak_slice, ak_build, ak_extract, ak_makeFunc, ak_makeInterface, ak_len, ak_load, ak_store, ak_call, ak_alloc, ak_box, ak_buildSlice, ak_makeSlice, ak_append, dstOk, ft_move, ft_assign, ft_pick, ft_binOp, ft_unOp, ft_nilCheck, ft_fieldAddr, ft_field, ft_indexAddr, ft_index, ft_slice, ft_build, ft_extract, ft_makeFunc, ft_makeInterface, ft_len, ft_load, ft_store, ft_convert, ft_alloc, ft_box, ft_buildSlice, ft_makeSlice, ft_append, ft_call, drawEnd_ok, List.all_cons, List.all_nil, List.contains_cons, List.contains_nil, Nat.reduceBEq, Bool.or_false, Bool.or_true, Bool.false_or, Bool.true_or, List.length_append, List.length_replicate, Option.toList_some, Option.toList_none, locs, List.flatMap_cons, List.flatMap_nil, roundTo, Int.natCast_zero, Int.zero_add, Nat.le_refl, Nat.zero_le, Nat.sub_zero, encY1]
    refine congrArg some (aGc_at (live := [3, 4, 5, 6, 7]) (L := [0, 1, 2, 3]) (by kernel_rfl) (by kernel_rfl) (by decide) (by kernel_rfl) ?_)
    exact .cons rfl (flat_arr _ rfl) (.cons rfl (flat_arr _ (encY_locs _)) (.cons rfl (flat_arr _ (encY_locs _)) (.cons rfl (flat_arr _ (encI_locs _)) .nil)))
  · by_cases hqe : q = a
    · subst hqe
      have hloop := hloop false
      have b1 : List.take (q * 7) (encY tn) = encY tn := List.take_of_length_le (by omega)
      have b3 : q * 80 ≤ 1099511627776 := by omega
      have b4 : q ≤ 1099511627776 := by omega
      have b5 : encY (ins tn q rs) = encY tn ++ [.sc (.int .i64 0), .sc (.int .i64 0), .sc (.int .i64 0), .sc (.bool false), .sc (.string .empty), .sc (.int .i64 0), .fs (encR rs) rs.length none] := by
        have h1 : tn.take q = tn := List.take_of_length_le (by omega)
        have h2 : tn.drop q = [] := List.drop_eq_nil_of_le (by omega)
        simp [ins, encY, encY1, h1, h2, encY_append]
      simp only [Try.f3, loopB, loopsOf, Option.getD_some, List.nil_append, List.append_nil, List.cons_append, List.getElem?_cons_zero, List.getElem?_cons_succ, List.getElem?_nil, codesO] at hloop
      simp only [Try.f3, loopB, loopsOf, Option.getD_some, List.nil_append, List.append_nil, List.cons_append, List.getElem?_cons_zero, List.getElem?_cons_succ, List.getElem?_nil, codesO]
      simp (maxSteps := 1000000) (disch := first | ((with_reducible show aGc _ _ _ _ = _); with_unfolding_all exact aGc_at (live := [3, 4, 5, 6, 7, 8, 10, 11, 12]) (L := [0, 1, 6, 3, 4, 9]) (by kernel_rfl) (by kernel_rfl) (by decide) (by kernel_rfl) (.cons rfl (flat_arr _ rfl) (.cons (by rw [encY_snoc]; rfl) (flat_arr _ (encY_locs _)) (.cons (by rw [b5]; rfl) (flat_arr _ (encY_locs _)) (.cons rfl (flat_arr _ (encI_locs _)) (.cons rfl (flat_arr _ rfl) (.cons rfl (flat_arr _ (encI_locs _)) .nil))))))) | (with_unfolding_all exact (rfl : (_ : Option AObj) = _)) | ((with_reducible show List.length _ = _); simp only [List.length_cons, List.length_nil, Nat.reduceAdd]; rfl) | ((with_reducible show quietRegion _ _ _ = true); decide +kernel) | ((with_reducible show (edgesOk _ _ && pairsOk _ _ _) = true); exact id (by kernel_rfl))) only [aCode_seq, aCode_ops, aCode_cnd, aCode_skip, aCode_exit, aCode_ret, aCode_block, aCode_quiet, aOps_n, aOps_c, aWanted, aEval, ofVal, ofVal1, aPut_some, aPut_none, applyP_nil, applyP_cons,
    st_move, st_assign, st_load, st_store, st_fieldAddr, st_field, st_indexAddr, st_index, st_slice, st_build, st_pick, st_nilCheck, st_extract, st_binOp, st_unOp, st_convert, st_len, st_alloc, st_box, st_buildSlice, st_makeSlice, st_makeFunc, st_append,
    qr_some, rr_some, binV, unV, storeV, nilV, pickV, extV, intBin, loadV, mkV, storeW, fieldAddrV, fieldV, partV, idxS, idxA, lenS, sliceW, bnd, aBox, aNew, newSlice, appendV, srcCells, freeIdx, firstDead, AVal.cells, ld3, ld5, ld22, ld27, ld29, ld37, ld43, so3, so27, so37, so43, fa45_0, fa45_1, fa37_1, fa43_0, fa43_1, ix22, ix26, ix29, ix27, ln22, ln26, ln29, sl22, sl26, ap26, ap29, al27, al37, al43, cv53, bd43, bd45, bd37, bs29, bs26, AVal.oneCell, AVal.known,
    aResults, aResult, oneOr, List.set_cons_zero, List.set_cons_succ, List.getD_eq_getElem?_getD, List.getElem?_cons_succ, List.getElem?_cons_zero, List.getElem?_nil, Option.getD_some, List.getElem?_toArray, List.drop, List.take, List.drop_zero, List.take_zero, List.length_cons, List.length_nil,
    List.nil_append, List.cons_append, List.append_nil, List.map, List.all_cons, List.all_nil, List.replicate, Option.map_some, Option.map_none,
    ↓reduceIte, Nat.reduceAdd, Nat.reduceSub, Nat.reduceMul, Nat.reducePow, Nat.reduceLeDiff, Nat.reduceLT, Nat.reduceEqDiff, Nat.zero_add, Nat.add_zero, Nat.mul_one, Nat.zero_mul, Int.reduceLT, Int.reduceLE, Int.reduceToNat, Int.reduceNeg,
    decide_eq_true_eq, decide_true, decide_false, Bool.false_eq_true, Bool.not_true, Bool.not_false, beqTT, beqTF, beqFT, beqFF, beq_self_eq_true, Bool.and_self, and_self, and_true, true_and, not_true_eq_false, not_false_eq_true, Int.toNat_natCast, Int.natCast_nonneg, Int.cast_ofNat_Int, if_true, if_false, ite_true, ite_false, Option.isSome_none, Option.isSome_some, Option.getD_none, false_implies, forall_const, Bool.or_self, Option.map_none, h1, x1, x2, nx, rv, sv, hloop, hbn, hh, e1, e2, a1, a2, a3, b1, b3, b4, hq0, Nat.lt_irrefl, Nat.sub_self, encI_one, encY_one, st_call fn6, st_call fn7, st_call fn8, bd37, bs26, aCode_drawK (id := 12), drawK_n, drawK_c, withSlots, nSlots, ak_move, ak_assign, ak_pick, ak_binOp, ak_unOp, ak_nilCheck, ak_fieldAddr, ak_field, ak_indexAddr, ak_index, ak_slice, ak_build, ak_extract, ak_makeFunc, ak_makeInterface, ak_len, ak_load, ak_store, ak_call, ak_alloc, ak_box, ak_buildSlice, ak_makeSlice, ak_append, dstOk, ft_move, ft_assign, ft_pick, ft_binOp, ft_unOp, ft_nilCheck, ft_fieldAddr, ft_field, ft_indexAddr, ft_index, ft_slice, ft_build, ft_extract, ft_makeFunc, ft_makeInterface, ft_len, ft_load, ft_store, ft_convert, ft_alloc, ft_box, ft_buildSlice, ft_makeSlice, ft_append, ft_call, drawEnd_ok, List.all_cons, List.all_nil, List.contains_cons, List.contains_nil, Nat.reduceBEq, Bool.or_false, Bool.or_true, Bool.false_or, Bool.true_or, List.length_append, List.length_replicate, Option.toList_some, Option.toList_none, locs, List.flatMap_cons, List.flatMap_nil, roundTo, Int.natCast_zero, Int.zero_add, Nat.le_refl, Nat.zero_le, Nat.sub_zero, encY1]
      refine congrArg some (aGc_at (live := [3, 4, 5, 6, 7]) (L := [0, 1, 2, 3]) (by kernel_rfl) (by kernel_rfl) (by decide) (by kernel_rfl) ?_)
      exact .cons rfl (flat_arr _ rfl) (.cons rfl (flat_arr _ (encY_locs _)) (.cons rfl (flat_arr _ (encY_locs _)) (.cons rfl (flat_arr _ (encI_locs _)) .nil)))
    · have hloop := hloop false
      have hqlt : q < a := by omega
      have c2 : List.take (q * 7) (encY tn) = encY (tn.take q) := encY_take tn q
      have c3 : (encY (tn.take q)).length = q * 7 := by rw [encY_length, List.length_take]; congr 1; omega
      have c4 : List.take ((a - q) * 7) (List.drop (q * 7) (encY tn)) = encY (tn.drop q) := by
        rw [encY_drop, List.take_of_length_le]
        rw [encY_length, List.length_drop]; omega
      have c5 : q * 7 ≤ a * 7 := by omega
      have c6 : q * 7 + (a - q) * 7 ≤ a * 7 := by omega
      have c7 : (q + 1) * 80 ≤ 1099511627776 := by omega
      have c8 : q + 1 ≤ 1099511627776 := by omega
      have c9 : ¬ (q + 1 ≤ q) := by omega
      have c10 : ¬ (a - q = 0) := by omega
      have c11 : q + 1 + (a - q) = a + 1 := by omega
      have c12 : ¬ (a + 1 ≤ q + 1) := by omega
      have c13 : (q + 1) * 7 = q * 7 + 7 := by omega
      have c14 : q * 80 ≤ 1099511627776 := by omega
      have c15 : q ≤ 1099511627776 := by omega
      have b5 : encY (ins tn q rs) = encY (tn.take q) ++ [.sc (.int .i64 0), .sc (.int .i64 0), .sc (.int .i64 0), .sc (.bool false), .sc (.string .empty), .sc (.int .i64 0), .fs (encR rs) rs.length none] ++ encY (tn.drop q) := by simp [ins, encY, encY1, encY_append]
      simp only [Try.f3, loopB, loopsOf, Option.getD_some, List.nil_append, List.append_nil, List.cons_append, List.getElem?_cons_zero, List.getElem?_cons_succ, List.getElem?_nil, codesO] at hloop
      simp only [Try.f3, loopB, loopsOf, Option.getD_some, List.nil_append, List.append_nil, List.cons_append, List.getElem?_cons_zero, List.getElem?_cons_succ, List.getElem?_nil, codesO]
      simp (maxSteps := 1000000) (disch := first | ((with_reducible show aGc _ _ _ _ = _); with_unfolding_all exact aGc_at (live := [3, 4, 5, 6, 7, 8, 10, 11, 12]) (L := [0, 1, 6, 3, 4, 9]) (by kernel_rfl) (by kernel_rfl) (by decide) (by kernel_rfl) (.cons rfl (flat_arr _ rfl) (.cons (by rw [encY_snoc]; rfl) (flat_arr _ (encY_locs _)) (.cons (by rw [b5]; rfl) (flat_arr _ (encY_locs _)) (.cons rfl (flat_arr _ (encI_locs _)) (.cons rfl (flat_arr _ rfl) (.cons rfl (flat_arr _ (encI_locs _)) .nil))))))) | (with_unfolding_all exact (rfl : (_ : Option AObj) = _)) | ((with_reducible show List.length _ = _); simp only [List.length_cons, List.length_nil, Nat.reduceAdd]; rfl) | ((with_reducible show quietRegion _ _ _ = true); decide +kernel) | ((with_reducible show (edgesOk _ _ && pairsOk _ _ _) = true); exact id (by kernel_rfl))) only [aCode_seq, aCode_ops, aCode_cnd, aCode_skip, aCode_exit, aCode_ret, aCode_block, aCode_quiet, aOps_n, aOps_c, aWanted, aEval, ofVal, ofVal1, aPut_some, aPut_none, applyP_nil, applyP_cons,
    st_move, st_assign, st_load, st_store, st_fieldAddr, st_field, st_indexAddr, st_index, st_slice, st_build, st_pick, st_nilCheck, st_extract, st_binOp, st_unOp, st_convert, st_len, st_alloc, st_box, st_buildSlice, st_makeSlice, st_makeFunc, st_append,
    qr_some, rr_some, binV, unV, storeV, nilV, pickV, extV, intBin, loadV, mkV, storeW, fieldAddrV, fieldV, partV, idxS, idxA, lenS, sliceW, bnd, aBox, aNew, newSlice, appendV, srcCells, freeIdx, firstDead, AVal.cells, ld3, ld5, ld22, ld27, ld29, ld37, ld43, so3, so27, so37, so43, fa45_0, fa45_1, fa37_1, fa43_0, fa43_1, ix22, ix26, ix29, ix27, ln22, ln26, ln29, sl22, sl26, ap26, ap29, al27, al37, al43, cv53, bd43, bd45, bd37, bs29, bs26, AVal.oneCell, AVal.known,
    aResults, aResult, oneOr, List.set_cons_zero, List.set_cons_succ, List.getD_eq_getElem?_getD, List.getElem?_cons_succ, List.getElem?_cons_zero, List.getElem?_nil, Option.getD_some, List.getElem?_toArray, List.drop, List.take, List.drop_zero, List.take_zero, List.length_cons, List.length_nil,
    List.nil_append, List.cons_append, List.append_nil, List.map, List.all_cons, List.all_nil, List.replicate, Option.map_some, Option.map_none,
    ↓reduceIte, Nat.reduceAdd, Nat.reduceSub, Nat.reduceMul, Nat.reducePow, Nat.reduceLeDiff, Nat.reduceLT, Nat.reduceEqDiff, Nat.zero_add, Nat.add_zero, Nat.mul_one, Nat.zero_mul, Int.reduceLT, Int.reduceLE, Int.reduceToNat, Int.reduceNeg,
    decide_eq_true_eq, decide_true, decide_false, Bool.false_eq_true, Bool.not_true, Bool.not_false, beqTT, beqTF, beqFT, beqFF, beq_self_eq_true, Bool.and_self, and_self, and_true, true_and, not_true_eq_false, not_false_eq_true, Int.toNat_natCast, Int.natCast_nonneg, Int.cast_ofNat_Int, if_true, if_false, ite_true, ite_false, Option.isSome_none, Option.isSome_some, Option.getD_none, false_implies, forall_const, Bool.or_self, Option.map_none, h1, x1, x2, nx, rv, sv, hloop, hbn, hh, e1, e2, a1, a2, a3, hq0, hqe, hqlt, hqa, c2, c3, c4, c5, c6, c7, c8, c9, c10, c11, c12, c13, c14, c15, List.length_append, encI_one, encY_one, st_call fn6, st_call fn7, st_call fn8, bd37, bs26, aCode_drawK (id := 12), drawK_n, drawK_c, withSlots, nSlots, ak_move, ak_assign, ak_pick, ak_binOp, ak_unOp, ak_nilCheck, ak_fieldAddr, ak_field, ak_indexAddr, ak_index, ak_slice, ak_build, ak_extract, ak_makeFunc, ak_makeInterface, ak_len, ak_load, ak_store, ak_call, ak_alloc, ak_box, ak_buildSlice, ak_makeSlice, ak_append, dstOk, ft_move, ft_assign, ft_pick, ft_binOp, ft_unOp, ft_nilCheck, ft_fieldAddr, ft_field, ft_indexAddr, ft_index, ft_slice, ft_build, ft_extract, ft_makeFunc, ft_makeInterface, ft_len, ft_load, ft_store, ft_convert, ft_alloc, ft_box, ft_buildSlice, ft_makeSlice, ft_append, ft_call, drawEnd_ok, List.all_cons, List.all_nil, List.contains_cons, List.contains_nil, Nat.reduceBEq, Bool.or_false, Bool.or_true, Bool.false_or, Bool.true_or, List.length_append, List.length_replicate, Option.toList_some, Option.toList_none, locs, List.flatMap_cons, List.flatMap_nil, roundTo, Int.natCast_zero, Int.zero_add, Nat.le_refl, Nat.zero_le, Nat.sub_zero, encY1]
      refine congrArg some (aGc_at (live := [3, 4, 5, 6, 7]) (L := [0, 1, 2, 3]) (by kernel_rfl) (by kernel_rfl) (by decide) (by kernel_rfl) ?_)
      exact .cons rfl (flat_arr _ rfl) (.cons rfl (flat_arr _ (encY_locs _)) (.cons rfl (flat_arr _ (encY_locs _)) (.cons rfl (flat_arr _ (encI_locs _)) .nil)))

end Go.Proofs.Ytjfdjendaagccaa

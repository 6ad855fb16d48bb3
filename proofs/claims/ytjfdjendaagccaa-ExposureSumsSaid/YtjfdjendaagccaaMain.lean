/-
  The rounds of the statement's own loop.
-/
import Derived.Test.YtjfdjendaagccaaTotal
import Derived.Test.YtjfdjendaagccaaEq
import Derived.Test.YtjfdjendaagccaaAeL
namespace Go.Proofs.Ytjfdjendaagccaa
open Go Go.Proofs Go.Proofs.Ae
set_option linter.unusedSimpArgs false
set_option linter.unusedVariables false
set_option linter.unnecessarySimpa false

theorem reasons_inv (m : Nat) {L : List UInt8} (hl : L.length ≤ 1000) (p : Nat) (rest : AHeap) :
    aInvoke C0 (aCall C0 (m + 100)) 7 [.ptr 0 0 2] (.arr [.fs (encB L) L.length none, .sc (.int .i64 p)] true :: rest) =
      some (.ret (.fs (encR (reasonsF L p).1) (reasonsF L p).1.length none), [(0, .arr [.fs (encB L) L.length none, .sc (.int .i64 (reasonsF L p).2)] true)]) := by
  rw [aInvoke_plain (by simp)]
  exact reasons_core m (h := .arr [.fs (encB L) L.length none, .sc (.int .i64 p)] true :: rest) (lo := 0) rfl hl

theorem byRef8 : C0.byRef 8 = false := by kernel_rfl

theorem sum_inv (m : Nat) {rs : List (Int × Int)} (hr : rs.length ≤ 100) {h : AHeap} {l : Nat} (ho : h[l]? = some (.arr [.sc (.int .i64 0), .sc (.int .i64 0), .sc (.int .i64 0), .sc (.bool false), .sc (.string .empty), .sc (.int .i64 0), .fs (encR rs) rs.length none] true)) :
    aInvoke C0 (aCall C0 (m + 400)) 8 [.ms l 0 1 7 1 true] h = some (.ret (.agg (encI (hist (binsOf [rs])))),
      [(l, .arr [.sc (.int .i64 0), .sc (.int .i64 0), .sc (.int .i64 0), .sc (.bool false), .sc (.string .empty), .sc (.int .i64 0), .fs (encR rs) rs.length none] false)]) := by
  have := aInvoke_ms (C := C0) (call := aCall C0 (m + 400)) (g := 8) (h := h) (l := l) (len := 1) (sz := 7) (lo := 1) (ex := true) (w := true) (cells := encY [rs]) byRef8 ho rfl (encY_fix _) (encY_locs _)
    (fun h' => sum_core m h' (ys := [rs]) (by simp) (by simpa using hr))
  simpa [encY, encY1] using this

theorem encY_one : ∀ l : List (List (Int × Int)), (encY l).all AVal.oneCell = true
  | [] => rfl
  | r :: l => by simp [encY, encY1, encY_one l, AVal.oneCell]

theorem binsOf_append (a b : List (List (Int × Int))) : binsOf (a ++ b) = binsOf a ++ binsOf b := by simp [binsOf]
theorem binsOf_one (r : List (Int × Int)) : (binsOf [r]).length = r.length := by simp [binsOf]
theorem binsOf_lt (ys : List (List (Int × Int))) : ∀ b, b ∈ binsOf ys → b < 7 := by
  intro b hb
  simp only [binsOf, List.mem_flatMap, List.mem_map] at hb
  obtain ⟨r, _, x, _, rfl⟩ := hb
  exact binOf_lt _

theorem reasonsF_length (L : List UInt8) (p : Nat) : (reasonsF L p).1.length ≤ 4 := by
  have := nextV_range L p (n := 5) (by omega)
  rw [reasonsF, reasonsAux_length]
  omega

theorem main_exit (call : CallF) (n : Nat) (lv tv sv : AVal) (h : AHeap) :
    aCode C0 call mgi (n + 10) (loopB Try.f3 0) [.top, .top, .top, .ptr 0 0 2, lv, tv, sv, .sc (.int .i64 (0 : Nat)), .top, .top, .top, .top, .top, .top, .top, .top, .top, .top, .top, .top, .top, .top, .top, .top, .top, .top, .top, .top, .top, .top, .top, .top, .top, .top, .top, .top, .top, .top, .top, .top, .top, .top, .top, .top, .top, .top, .top, .top, .top, .top, .top, .top, .top, .top, .top, .top, .top, .top, .top, .top, .top, .top, .top, .top, .top, .top, .top, .top, .top, .top, .top, .top, .top, .top, .top, .top, .top, .top, .top, .top, .top] h =
      some (.exit 0, [.top, .top, .top, .ptr 0 0 2, lv, tv, sv, .sc (.int .i64 (0 : Nat)), .top, .top, .top, .top, .top, .top, .top, .top, .top, .top, .top, .sc (.int .i64 (0 : Nat)), .sc (.bool false), .top, .top, .top, .top, .top, .top, .top, .top, .top, .top, .top, .top, .top, .top, .top, .top, .top, .top, .top, .top, .top, .top, .top, .top, .top, .top, .top, .top, .top, .top, .top, .top, .top, .top, .top, .top, .top, .top, .top, .top, .top, .top, .top, .top, .top, .top, .top, .top, .top, .top, .top, .top, .top, .top, .top, .top, .top, .top, .top, .top], h) := by
  simp only [Try.f3, loopB, loopsOf, Option.getD_some, List.nil_append, List.append_nil, List.cons_append, List.getElem?_cons_zero, List.getElem?_cons_succ, List.getElem?_nil]
  simp (maxSteps := 1000000) (disch := first | ((with_reducible show List.length _ = _); simp only [List.length_cons, List.length_nil, Nat.reduceAdd]; rfl) | ((with_reducible show quietRegion _ _ _ = true); decide +kernel) | ((with_reducible show aGc _ _ _ _ = _); exact id (by kernel_rfl)) | ((with_reducible show (edgesOk _ _ && pairsOk _ _ _) = true); exact id (by kernel_rfl))) only [aCode_seq, aCode_ops, aCode_cnd, aCode_skip, aCode_exit, aCode_ret, aCode_block, aCode_quiet, aOps_n, aOps_c, aWanted, aEval, ofVal, ofVal1, aPut_some, aPut_none, applyP_nil, applyP_cons,
    st_move, st_assign, st_load, st_store, st_fieldAddr, st_field, st_indexAddr, st_index, st_slice, st_build, st_pick, st_nilCheck, st_extract, st_binOp, st_unOp, st_convert, st_len, st_alloc, st_box, st_buildSlice, st_makeSlice, st_makeFunc, st_append,
    qr_some, rr_some, binV, unV, storeV, nilV, pickV, extV, intBin, loadV, mkV, storeW, fieldAddrV, fieldV, partV, idxS, idxA, lenS, sliceW, bnd, aBox, aNew, newSlice, appendV, srcCells, freeIdx, firstDead, AVal.cells, ld3, ld5, ld22, ld27, ld29, ld37, ld43, so3, so27, so37, so43, fa45_0, fa45_1, fa37_1, fa43_0, fa43_1, ix22, ix26, ix29, ix27, ln22, ln26, ln29, sl22, sl26, ap26, ap29, al27, al37, al43, cv53, bd43, bd45, bd37, bs29, bs26, AVal.oneCell, AVal.known,
    aResults, aResult, oneOr, List.set_cons_zero, List.set_cons_succ, List.getD_eq_getElem?_getD, List.getElem?_cons_succ, List.getElem?_cons_zero, List.getElem?_nil, Option.getD_some, List.getElem?_toArray, List.drop, List.take, List.drop_zero, List.take_zero, List.length_cons, List.length_nil,
    List.nil_append, List.cons_append, List.append_nil, List.map, List.all_cons, List.all_nil, List.replicate, Option.map_some, Option.map_none,
    ↓reduceIte, Nat.reduceAdd, Nat.reduceSub, Nat.reduceMul, Nat.reducePow, Nat.reduceLeDiff, Nat.reduceLT, Nat.reduceEqDiff, Nat.zero_add, Nat.add_zero, Nat.mul_one, Nat.zero_mul, Int.reduceLT, Int.reduceLE, Int.reduceToNat, Int.reduceNeg,
    decide_eq_true_eq, decide_true, decide_false, Bool.false_eq_true, Bool.not_true, Bool.not_false, beqTT, beqTF, beqFT, beqFF, beq_self_eq_true, Bool.and_self, and_self, and_true, true_and, not_true_eq_false, not_false_eq_true, Int.toNat_natCast, Int.natCast_nonneg, Int.cast_ofNat_Int, if_true, if_false, ite_true, ite_false, Option.isSome_none, Option.isSome_some, Option.getD_none, false_implies, forall_const, Bool.or_self, Option.map_none, gt_iff_lt, Int.reduceLT, Int.lt_irrefl, Int.natCast_zero, Int.ofNat_zero]

/-- the inner loop as the round comes to it -/
theorem tot_enter (call : CallF) (L : List UInt8) (p : Nat) (l tn : List (List (Int × Int))) (r : List (Int × Int)) (w1 w2 : Bool) (a : Nat) (k : Int) (A : List Nat) (hA : A.length ≤ 100000) (hB : r.length ≤ 100000) :
    ∀ (x : Nat) (t : List AVal) (h : AHeap),
    aGc mgi (loopB Try.f3 1) t h = ([.top, .top, .top, .ptr 0 0 2, .ms 1 0 a 7 a false, .ms 2 0 a 7 a false, .ptr 3 0 7, .sc (.int .i64 k), .ptr 4 0 7, .top, .ptr 5 0 7, .sc (.int .i64 0), .sc (.int .i64 0), .top, .top, .top, .top, .top, .top, .top, .top, .top, .top, .top, .top, .top, .top, .top, .top, .top, .top, .top, .top, .top, .top, .top, .top, .top, .top, .top, .top, .top, .top, .top, .top, .top, .top, .top, .top, .top, .top, .top, .top, .top, .top, .top, .top, .top, .top, .top, .top, .top, .top, .top, .top, .top, .top, .top, .top, .top, .top, .top, .top, .top, .top, .top, .top, .top, .top, .top, .top],
      [codesO L p, .arr (encY l) w1, .arr (encY tn) w2, .arr (encI (hist A)) true, .arr (encY1 r) true, .arr (encI (hist (binsOf [r]))) true]) →
    aCode C0 call mgi (x + 30) (.loop (loopB Try.f3 1)) t h = some (.exit 2,
      [.top, .top, .top, .ptr 0 0 2, .ms 1 0 a 7 a false, .ms 2 0 a 7 a false, .ptr 3 0 7, .sc (.int .i64 k), .ptr 4 0 7, .top, .ptr 5 0 7, .sc (.int .i64 r.length), .sc (.int .i64 (7 : Nat)), .top, .top, .top, .top, .top, .top, .top, .top, .top, .top, .top, .top, .top, .top, .top, .top, .top, .top, .top, .top, .top, .top, .top, .top, .top, .top, .top, .top, .top, .top, .top, .top, .top, .top, .top, .top, .sc (.int .i64 (7 : Nat)), .sc (.bool false), .top, .top, .top, .top, .top, .top, .top, .top, .top, .top, .top, .top, .top, .top, .top, .top, .top, .top, .top, .top, .top, .top, .top, .top, .top, .top, .top, .top, .top, .top],
      [codesO L p, .arr (encY l) w1, .arr (encY tn) w2, .arr (encI (hist (A ++ binsOf [r]))) true, .arr (encY1 r) true, .arr (encI (hist (binsOf [r]))) true]) := by
  intro x t h hg
  have := tot_loop call L p l tn r w1 w2 a k A (binsOf [r]) hA (by rw [binsOf_one]; exact hB) 7 0 2 t h rfl (by rw [mix_zero]; exact hg)
  rw [mix_seven, part_all (binsOf_lt _), binsOf_one] at this
  exact aCode_mono (CallLe.refl _) (by omega) this

theorem main_first (m n : Nat) {L : List UInt8} (hl : L.length ≤ 1000) (p k : Nat) (hk : k ≤ 100) :
    roundTo mgi (loopB Try.f3 0) (aCode C0 (aCall C0 (m + 400)) mgi (n + 100) (loopB Try.f3 0) [.top, .top, .top, .ptr 0 0 2, .sc (.slice none 0 0), .sc (.slice none 0 0), .ptr 1 0 7, .sc (.int .i64 (k + 1 : Nat)), .top, .top, .top, .top, .top, .top, .top, .top, .top, .top, .top, .top, .top, .top, .top, .top, .top, .top, .top, .top, .top, .top, .top, .top, .top, .top, .top, .top, .top, .top, .top, .top, .top, .top, .top, .top, .top, .top, .top, .top, .top, .top, .top, .top, .top, .top, .top, .top, .top, .top, .top, .top, .top, .top, .top, .top, .top, .top, .top, .top, .top, .top, .top, .top, .top, .top, .top, .top, .top, .top, .top, .top, .top]
      [codesO L p, .arr (encI (hist [])) true]) =
      some ([.top, .top, .top, .ptr 0 0 2, .ms 1 0 1 7 1 false, .ms 2 0 1 7 1 false, .ptr 3 0 7, .sc (.int .i64 k), .top, .top, .top, .top, .top, .top, .top, .top, .top, .top, .top, .top, .top, .top, .top, .top, .top, .top, .top, .top, .top, .top, .top, .top, .top, .top, .top, .top, .top, .top, .top, .top, .top, .top, .top, .top, .top, .top, .top, .top, .top, .top, .top, .top, .top, .top, .top, .top, .top, .top, .top, .top, .top, .top, .top, .top, .top, .top, .top, .top, .top, .top, .top, .top, .top, .top, .top, .top, .top, .top, .top, .top, .top],
        [codesO L (nextK L (reasonsF L p).2 1), .arr (encY [(reasonsF L p).1]) true, .arr (encY [(reasonsF L p).1]) true, .arr (encI (hist (binsOf [(reasonsF L p).1]))) true]) := by
  have hr := reasonsF_length L p
  generalize hrs : reasonsF L p = r at hr
  obtain ⟨rs, p1⟩ := r
  simp only at hr ⊢
  have nx := next_inv (m + 380) 1 (by omega) hl p1
  have hz : nextV L p1 1 = 0 := by have := nextV_range L p1 (n := 1) (by omega); omega
  rw [hz] at nx
  have rv := reasons_inv (m + 300) hl p
  rw [hrs] at rv
  have sv := fun (h : AHeap) (l : Nat) => sum_inv m (rs := rs) (by omega) (h := h) (l := l)
  have hloop := tot_enter (aCall C0 (m + 400)) L (nextK L p1 1) [rs] [rs] rs true true 1 ((k + 1 : Nat) : Int) [] (by simp) (by omega)
  have h1 : ((k + 1 : Nat) : Int) > 0 := by omega
  have w1 : IntKind.i64.wrap (((k + 1 : Nat) : Int) - 1) = k := by rw [wrap_i64 (by omega) (by omega)]; omega
  have w2 : IntKind.i64.wrap 1 = 1 := by decide
  have hb : ((rs.length : Int) != (rs.length : Int)) = false := by simp
  have hh : (encI (hist (binsOf [rs]))).length = 7 := by simp [encI, hist_length]
  simp only [Try.f3, loopB, loopsOf, Option.getD_some, List.nil_append, List.append_nil, List.cons_append, List.getElem?_cons_zero, List.getElem?_cons_succ, List.getElem?_nil, codesO] at hloop
  simp only [Try.f3, loopB, loopsOf, Option.getD_some, List.nil_append, List.append_nil, List.cons_append, List.getElem?_cons_zero, List.getElem?_cons_succ, List.getElem?_nil, codesO]
  simp (maxSteps := 1000000) (disch := first | ((with_reducible show aGc _ _ _ _ = _); with_unfolding_all exact aGc_at (live := [3, 4, 5, 6, 7, 8, 10, 11, 12]) (L := [0, 4, 7, 1, 2, 8]) (by kernel_rfl) (by kernel_rfl) (by decide) (by kernel_rfl) (.cons rfl (flat_arr _ rfl) (.cons rfl (flat_arr _ (encY_locs _)) (.cons rfl (flat_arr _ (encY_locs _)) (.cons rfl (flat_arr _ (encI_locs _)) (.cons rfl (flat_arr _ rfl) (.cons rfl (flat_arr _ (encI_locs _)) .nil))))))) | (with_unfolding_all exact (rfl : (_ : Option AObj) = _)) | ((with_reducible show List.length _ = _); simp only [List.length_cons, List.length_nil, Nat.reduceAdd]; rfl) | ((with_reducible show quietRegion _ _ _ = true); decide +kernel) | ((with_reducible show (edgesOk _ _ && pairsOk _ _ _) = true); exact id (by kernel_rfl))) only [aCode_seq, aCode_ops, aCode_cnd, aCode_skip, aCode_exit, aCode_ret, aCode_block, aCode_quiet, aOps_n, aOps_c, aWanted, aEval, ofVal, ofVal1, aPut_some, aPut_none, applyP_nil, applyP_cons,
    st_move, st_assign, st_load, st_store, st_fieldAddr, st_field, st_indexAddr, st_index, st_slice, st_build, st_pick, st_nilCheck, st_extract, st_binOp, st_unOp, st_convert, st_len, st_alloc, st_box, st_buildSlice, st_makeSlice, st_makeFunc, st_append,
    qr_some, rr_some, binV, unV, storeV, nilV, pickV, extV, intBin, loadV, mkV, storeW, fieldAddrV, fieldV, partV, idxS, idxA, lenS, sliceW, bnd, aBox, aNew, newSlice, appendV, srcCells, freeIdx, firstDead, AVal.cells, ld3, ld5, ld22, ld27, ld29, ld37, ld43, so3, so27, so37, so43, fa45_0, fa45_1, fa37_1, fa43_0, fa43_1, ix22, ix26, ix29, ix27, ln22, ln26, ln29, sl22, sl26, ap26, ap29, al27, al37, al43, cv53, bd43, bd45, bd37, bs29, bs26, AVal.oneCell, AVal.known,
    aResults, aResult, oneOr, List.set_cons_zero, List.set_cons_succ, List.getD_eq_getElem?_getD, List.getElem?_cons_succ, List.getElem?_cons_zero, List.getElem?_nil, Option.getD_some, List.getElem?_toArray, List.drop, List.take, List.drop_zero, List.take_zero, List.length_cons, List.length_nil,
    List.nil_append, List.cons_append, List.append_nil, List.map, List.all_cons, List.all_nil, List.replicate, Option.map_some, Option.map_none,
    ↓reduceIte, Nat.reduceAdd, Nat.reduceSub, Nat.reduceMul, Nat.reducePow, Nat.reduceLeDiff, Nat.reduceLT, Nat.reduceEqDiff, Nat.zero_add, Nat.add_zero, Nat.mul_one, Nat.zero_mul, Int.reduceLT, Int.reduceLE, Int.reduceToNat, Int.reduceNeg,
    decide_eq_true_eq, decide_true, decide_false, Bool.false_eq_true, Bool.not_true, Bool.not_false, beqTT, beqTF, beqFT, beqFF, beq_self_eq_true, Bool.and_self, and_self, and_true, true_and, not_true_eq_false, not_false_eq_true, Int.toNat_natCast, Int.natCast_nonneg, Int.cast_ofNat_Int, if_true, if_false, ite_true, ite_false, Option.isSome_none, Option.isSome_some, Option.getD_none, false_implies, forall_const, Bool.or_self, Option.map_none, h1, w1, w2, nx, rv, sv, hloop, hb, hh, encI_one, st_call fn6, st_call fn7, st_call fn8, bd37, bs26, aCode_drawK (id := 12), drawK_n, drawK_c, withSlots, nSlots, ak_move, ak_assign, ak_pick, ak_binOp, ak_unOp, ak_nilCheck, ak_fieldAddr, ak_field, ak_indexAddr, ak_index, ak_slice, ak_build, ak_extract, ak_makeFunc, ak_makeInterface, ak_len, ak_load, ak_store, ak_call, ak_alloc, ak_box, ak_buildSlice, ak_makeSlice, ak_append, dstOk, ft_move, ft_assign, ft_pick, ft_binOp, ft_unOp, ft_nilCheck, ft_fieldAddr, ft_field, ft_indexAddr, ft_index, ft_slice, ft_build, ft_extract, ft_makeFunc, ft_makeInterface, ft_len, ft_load, ft_store, ft_convert, ft_alloc, ft_box, ft_buildSlice, ft_makeSlice, ft_append, ft_call, drawEnd_ok, List.all_cons, List.all_nil, List.contains_cons, List.contains_nil, Nat.reduceBEq, Bool.or_false, Bool.or_true, Bool.false_or, Bool.true_or, List.length_append, List.length_replicate, Option.toList_some, Option.toList_none, locs, List.flatMap_cons, List.flatMap_nil, roundTo, Int.natCast_zero, Int.zero_add, Nat.le_refl, encY1]
  refine congrArg some (aGc_at (live := [3, 4, 5, 6, 7]) (L := [0, 1, 2, 3]) (by kernel_rfl) (by kernel_rfl) (by decide) (by kernel_rfl) ?_)
  exact .cons rfl (flat_arr _ rfl) (.cons rfl (flat_arr _ (encY_locs _)) (.cons rfl (flat_arr _ (encY_locs _)) (.cons rfl (flat_arr _ (encI_locs _)) .nil)))

end Go.Proofs.Ytjfdjendaagccaa

/-
  Reasons out of choices.
-/
import Derived.Test.YtjfdjendaagccaaNew
namespace Go.Proofs.Ytjfdjendaagccaa
open Go Go.Proofs Go.Proofs.Ae
set_option linter.unusedSimpArgs false
set_option linter.unusedVariables false
set_option linter.unnecessarySimpa false

/-- the cells of a row of reasons -/
def encR : List (Int × Int) → List AVal
  | [] => []
  | (a, b) :: l => .sc (.int .i64 a) :: .sc (.int .i64 b) :: encR l

theorem encR_locs : ∀ l : List (Int × Int), locsL (encR l) = []
  | [] => rfl
  | (a, b) :: l => by simp [encR, locsL, locs, encR_locs l]
theorem encR_length : ∀ l : List (Int × Int), (encR l).length = l.length * 2
  | [] => rfl
  | (a, b) :: l => by simp [encR, encR_length l]; omega
theorem encR_append : ∀ l l' : List (Int × Int), encR (l ++ l') = encR l ++ encR l'
  | [], _ => rfl
  | (a, b) :: l, l' => by simp [encR, encR_append l l']

theorem encR_fix : ∀ l : List (Int × Int), FixL (encR l)
  | [] => .nil
  | (a, b) :: l => .cons (fix_int _ _) (.cons (fix_int _ _) (encR_fix l))

def reasonsAux (L : List UInt8) : Nat → Nat → List (Int × Int) × Nat
  | 0, p => ([], p)
  | k + 1, p =>
    let r := reasonsAux L k (nextK L (nextK L p 8) 6)
    ((nextV L p 8, nextV L (nextK L p 8) 6) :: r.1, r.2)

theorem next_inv (m : Nat) (n : Int) (hn : ¬ n > 256) {L : List UInt8} (hl : L.length ≤ 1000) (k : Nat) (rest : AHeap) :
    aInvoke C0 (aCall C0 (m + 20)) 6 [.ptr 0 0 2, .sc (.int .i64 n)] (.arr [.fs (encB L) L.length none, .sc (.int .i64 k)] true :: rest) =
      some (.ret (.sc (.int .i64 (nextV L k n))), [(0, .arr [.fs (encB L) L.length none, .sc (.int .i64 (nextK L k n))] true)]) := by
  rw [aInvoke_plain (by simp [locs])]
  exact next_core m (h := .arr [.fs (encB L) L.length none, .sc (.int .i64 k)] true :: rest) (lo := 0) rfl hn hl

def rgi : GcI := ⟨1, liveTab 7⟩

theorem reasons_exit (call : CallF) (n : Nat) (lv : AVal) (h : AHeap) :
    aCode C0 call rgi (n + 10) (loopB Try.f7 0) [.ptr 0 0 2, .top, .top, lv, .sc (.int .i64 0), .top, .top, .top, .top, .top, .top, .top, .top, .top, .top, .top, .top, .top, .top, .top] h = some (.exit 0, [.ptr 0 0 2, .top, .top, lv, .sc (.int .i64 0), .top, .top, .sc (.int .i64 0), .sc (.bool false), .top, .top, .top, .top, .top, .top, .top, .top, .top, .top, .top], h) := by
  simp only [Try.f7, loopB, loopsOf, Option.getD_some, List.nil_append, List.append_nil, List.cons_append, List.getElem?_cons_zero, List.getElem?_cons_succ, List.getElem?_nil]
  simp (maxSteps := 1000000) (disch := first | ((with_reducible show List.length _ = _); simp only [List.length_cons, List.length_nil, Nat.reduceAdd]; rfl) | ((with_reducible show quietRegion _ _ _ = true); decide +kernel) | ((with_reducible show aGc _ _ _ _ = _); exact id (by kernel_rfl)) | ((with_reducible show (edgesOk _ _ && pairsOk _ _ _) = true); exact id (by kernel_rfl))) only [aCode_seq, aCode_ops, aCode_cnd, aCode_skip, aCode_exit, aCode_ret, aCode_block, aCode_quiet, aOps_n, aOps_c, aWanted, aEval, ofVal, ofVal1, aPut_some, aPut_none, applyP_nil, applyP_cons,
    st_move, st_assign, st_load, st_store, st_fieldAddr, st_field, st_indexAddr, st_index, st_slice, st_build, st_pick, st_nilCheck, st_extract, st_binOp, st_unOp, st_convert, st_len, st_alloc, st_box, st_buildSlice, st_makeSlice, st_makeFunc, st_append,
    qr_some, rr_some, binV, unV, storeV, nilV, pickV, extV, intBin, loadV, mkV, storeW, fieldAddrV, fieldV, partV, idxS, idxA, lenS, sliceW, bnd, aBox, aNew, newSlice, appendV, srcCells, freeIdx, firstDead, AVal.cells, ld3, ld5, ld22, ld27, ld29, ld37, ld43, so3, so27, so37, so43, fa45_0, fa45_1, fa37_1, fa43_0, fa43_1, ix22, ix26, ix29, ix27, ln22, ln26, ln29, sl22, sl26, ap26, ap29, al27, al37, al43, cv53, bd43, bd45, bd37, bs29, bs26, AVal.oneCell, AVal.known,
    aResults, aResult, oneOr, List.set_cons_zero, List.set_cons_succ, List.getD_eq_getElem?_getD, List.getElem?_cons_succ, List.getElem?_cons_zero, List.getElem?_nil, Option.getD_some, List.getElem?_toArray, List.drop, List.take, List.drop_zero, List.take_zero, List.length_cons, List.length_nil,
    List.nil_append, List.cons_append, List.append_nil, List.map, List.all_cons, List.all_nil, List.replicate, Option.map_some, Option.map_none,
    ↓reduceIte, Nat.reduceAdd, Nat.reduceSub, Nat.reduceMul, Nat.reducePow, Nat.reduceLeDiff, Nat.reduceLT, Nat.reduceEqDiff, Nat.zero_add, Nat.add_zero, Nat.mul_one, Nat.zero_mul, Int.reduceLT, Int.reduceLE, Int.reduceToNat, Int.reduceNeg,
    decide_eq_true_eq, decide_true, decide_false, Bool.false_eq_true, Bool.not_true, Bool.not_false, beqTT, beqTF, beqFT, beqFF, beq_self_eq_true, Bool.and_self, and_self, and_true, true_and, not_true_eq_false, not_false_eq_true, Int.toNat_natCast, Int.natCast_nonneg, Int.cast_ofNat_Int, if_true, if_false, ite_true, ite_false, Option.isSome_none, Option.isSome_some, Option.getD_none, false_implies, forall_const, Bool.or_self, Option.map_none, gt_iff_lt, Int.reduceLT]

theorem reasons_first (m n : Nat) {L : List UInt8} (hl : L.length ≤ 1000) (p k : Nat) (hk : k ≤ 1000) :
    roundTo rgi (loopB Try.f7 0) (aCode C0 (aCall C0 (m + 20)) rgi (n + 10) (loopB Try.f7 0) [.ptr 0 0 2, .top, .top, .sc (.slice none 0 0), .sc (.int .i64 ((k + 1 : Nat) : Int)), .top, .top, .top, .top, .top, .top, .top, .top, .top, .top, .top, .top, .top, .top, .top] [codesO L p]) =
      some ([.ptr 0 0 2, .top, .top, .ms 1 0 1 2 1 false, .sc (.int .i64 k), .top, .top, .top, .top, .top, .top, .top, .top, .top, .top, .top, .top, .top, .top, .top], [codesO L (nextK L (nextK L p 8) 6), .arr (encR [(nextV L p 8, nextV L (nextK L p 8) 6)]) true]) := by
  have n8 := fun k rest => next_inv m 8 (by omega) hl k rest
  have n6 := fun k rest => next_inv m 6 (by omega) hl k rest
  have h1 : ((k + 1 : Nat) : Int) > 0 := by omega
  have w1 : IntKind.i64.wrap (((k + 1 : Nat) : Int) - 1) = k := by rw [wrap_i64 (by omega) (by omega)]; omega
  simp only [Try.f7, loopB, loopsOf, Option.getD_some, List.nil_append, List.append_nil, List.cons_append, List.getElem?_cons_zero, List.getElem?_cons_succ, List.getElem?_nil, codesO]
  simp (maxSteps := 1000000) (disch := first | ((with_reducible show List.length _ = _); simp only [List.length_cons, List.length_nil, Nat.reduceAdd]; rfl) | ((with_reducible show quietRegion _ _ _ = true); decide +kernel) | ((with_reducible show aGc _ _ _ _ = _); exact id (by kernel_rfl)) | ((with_reducible show (edgesOk _ _ && pairsOk _ _ _) = true); exact id (by kernel_rfl))) only [aCode_seq, aCode_ops, aCode_cnd, aCode_skip, aCode_exit, aCode_ret, aCode_block, aCode_quiet, aOps_n, aOps_c, aWanted, aEval, ofVal, ofVal1, aPut_some, aPut_none, applyP_nil, applyP_cons,
    st_move, st_assign, st_load, st_store, st_fieldAddr, st_field, st_indexAddr, st_index, st_slice, st_build, st_pick, st_nilCheck, st_extract, st_binOp, st_unOp, st_convert, st_len, st_alloc, st_box, st_buildSlice, st_makeSlice, st_makeFunc, st_append,
    qr_some, rr_some, binV, unV, storeV, nilV, pickV, extV, intBin, loadV, mkV, storeW, fieldAddrV, fieldV, partV, idxS, idxA, lenS, sliceW, bnd, aBox, aNew, newSlice, appendV, srcCells, freeIdx, firstDead, AVal.cells, ld3, ld5, ld22, ld27, ld29, ld37, ld43, so3, so27, so37, so43, fa45_0, fa45_1, fa37_1, fa43_0, fa43_1, ix22, ix26, ix29, ix27, ln22, ln26, ln29, sl22, sl26, ap26, ap29, al27, al37, al43, cv53, bd43, bd45, bd37, bs29, bs26, AVal.oneCell, AVal.known,
    aResults, aResult, oneOr, List.set_cons_zero, List.set_cons_succ, List.getD_eq_getElem?_getD, List.getElem?_cons_succ, List.getElem?_cons_zero, List.getElem?_nil, Option.getD_some, List.getElem?_toArray, List.drop, List.take, List.drop_zero, List.take_zero, List.length_cons, List.length_nil,
    List.nil_append, List.cons_append, List.append_nil, List.map, List.all_cons, List.all_nil, List.replicate, Option.map_some, Option.map_none,
    ↓reduceIte, Nat.reduceAdd, Nat.reduceSub, Nat.reduceMul, Nat.reducePow, Nat.reduceLeDiff, Nat.reduceLT, Nat.reduceEqDiff, Nat.zero_add, Nat.add_zero, Nat.mul_one, Nat.zero_mul, Int.reduceLT, Int.reduceLE, Int.reduceToNat, Int.reduceNeg,
    decide_eq_true_eq, decide_true, decide_false, Bool.false_eq_true, Bool.not_true, Bool.not_false, beqTT, beqTF, beqFT, beqFF, beq_self_eq_true, Bool.and_self, and_self, and_true, true_and, not_true_eq_false, not_false_eq_true, Int.toNat_natCast, Int.natCast_nonneg, Int.cast_ofNat_Int, if_true, if_false, ite_true, ite_false, Option.isSome_none, Option.isSome_some, Option.getD_none, false_implies, forall_const, Bool.or_self, Option.map_none, h1, w1, n8, n6, st_call fn6, bd43, bs29, roundTo]
  exact congrArg some (aGc_flat (live := [0, 3, 4]) (L := [0, 2]) (by kernel_rfl) (by kernel_rfl) (by simp [olocs, objLocs, locsL, locs]) (by decide) (by kernel_rfl) (by kernel_rfl))

theorem reasons_step (m n : Nat) {L : List UInt8} (hl : L.length ≤ 1000) (p k : Nat) (hk : k ≤ 1000) (acc : List (Int × Int)) (w : Bool) (ha : acc.length ≤ 1000) :
    roundTo rgi (loopB Try.f7 0) (aCode C0 (aCall C0 (m + 20)) rgi (n + 10) (loopB Try.f7 0) [.ptr 0 0 2, .top, .top, .ms 1 0 acc.length 2 acc.length false, .sc (.int .i64 ((k + 1 : Nat) : Int)), .top, .top, .top, .top, .top, .top, .top, .top, .top, .top, .top, .top, .top, .top, .top]
        [codesO L p, .arr (encR acc) w]) =
      some ([.ptr 0 0 2, .top, .top, .ms 1 0 (acc.length + 1) 2 (acc.length + 1) false, .sc (.int .i64 k), .top, .top, .top, .top, .top, .top, .top, .top, .top, .top, .top, .top, .top, .top, .top], [codesO L (nextK L (nextK L p 8) 6), .arr (encR (acc ++ [(nextV L p 8, nextV L (nextK L p 8) 6)])) false]) := by
  have n8 := fun k rest => next_inv m 8 (by omega) hl k rest
  have n6 := fun k rest => next_inv m 6 (by omega) hl k rest
  have h1 : ((k + 1 : Nat) : Int) > 0 := by omega
  have w1 : IntKind.i64.wrap (((k + 1 : Nat) : Int) - 1) = k := by rw [wrap_i64 (by omega) (by omega)]; omega
  have a1 : (acc.length + 1) * 16 ≤ 1099511627776 := by omega
  have a2 : acc.length + 1 ≤ 1099511627776 := by omega
  have a3 : ¬ (acc.length + 1 ≤ acc.length) := by omega
  simp only [Try.f7, loopB, loopsOf, Option.getD_some, List.nil_append, List.append_nil, List.cons_append, List.getElem?_cons_zero, List.getElem?_cons_succ, List.getElem?_nil, codesO]
  simp (maxSteps := 1000000) (disch := first | ((with_reducible show List.length _ = _); simp only [List.length_cons, List.length_nil, Nat.reduceAdd]; rfl) | ((with_reducible show quietRegion _ _ _ = true); decide +kernel) | ((with_reducible show aGc _ _ _ _ = _); exact id (by kernel_rfl)) | ((with_reducible show (edgesOk _ _ && pairsOk _ _ _) = true); exact id (by kernel_rfl))) only [aCode_seq, aCode_ops, aCode_cnd, aCode_skip, aCode_exit, aCode_ret, aCode_block, aCode_quiet, aOps_n, aOps_c, aWanted, aEval, ofVal, ofVal1, aPut_some, aPut_none, applyP_nil, applyP_cons,
    st_move, st_assign, st_load, st_store, st_fieldAddr, st_field, st_indexAddr, st_index, st_slice, st_build, st_pick, st_nilCheck, st_extract, st_binOp, st_unOp, st_convert, st_len, st_alloc, st_box, st_buildSlice, st_makeSlice, st_makeFunc, st_append,
    qr_some, rr_some, binV, unV, storeV, nilV, pickV, extV, intBin, loadV, mkV, storeW, fieldAddrV, fieldV, partV, idxS, idxA, lenS, sliceW, bnd, aBox, aNew, newSlice, appendV, srcCells, freeIdx, firstDead, AVal.cells, ld3, ld5, ld22, ld27, ld29, ld37, ld43, so3, so27, so37, so43, fa45_0, fa45_1, fa37_1, fa43_0, fa43_1, ix22, ix26, ix29, ix27, ln22, ln26, ln29, sl22, sl26, ap26, ap29, al27, al37, al43, cv53, bd43, bd45, bd37, bs29, bs26, AVal.oneCell, AVal.known,
    aResults, aResult, oneOr, List.set_cons_zero, List.set_cons_succ, List.getD_eq_getElem?_getD, List.getElem?_cons_succ, List.getElem?_cons_zero, List.getElem?_nil, Option.getD_some, List.getElem?_toArray, List.drop, List.take, List.drop_zero, List.take_zero, List.length_cons, List.length_nil,
    List.nil_append, List.cons_append, List.append_nil, List.map, List.all_cons, List.all_nil, List.replicate, Option.map_some, Option.map_none,
    ↓reduceIte, Nat.reduceAdd, Nat.reduceSub, Nat.reduceMul, Nat.reducePow, Nat.reduceLeDiff, Nat.reduceLT, Nat.reduceEqDiff, Nat.zero_add, Nat.add_zero, Nat.mul_one, Nat.zero_mul, Int.reduceLT, Int.reduceLE, Int.reduceToNat, Int.reduceNeg,
    decide_eq_true_eq, decide_true, decide_false, Bool.false_eq_true, Bool.not_true, Bool.not_false, beqTT, beqTF, beqFT, beqFF, beq_self_eq_true, Bool.and_self, and_self, and_true, true_and, not_true_eq_false, not_false_eq_true, Int.toNat_natCast, Int.natCast_nonneg, Int.cast_ofNat_Int, if_true, if_false, ite_true, ite_false, Option.isSome_none, Option.isSome_some, Option.getD_none, false_implies, forall_const, Bool.or_self, Option.map_none, h1, w1, n8, n6, st_call fn6, bd43, bs29, roundTo, encR_length, a1, a2, a3, Nat.le_refl]
  refine congrArg some (aGc_flat (live := [0, 3, 4]) (L := [0, 1]) (by kernel_rfl) (by kernel_rfl) ?_ (by decide) (by kernel_rfl) ?_)
  · simp [olocs, objLocs, locsL, locs, locsL_append, encR_locs]
  · rw [encR_append]
    simp only [subHeap, List.getElem?_cons_zero, List.getElem?_cons_succ]
    rw [mapObj_id rfl (by simp) (by simp [objLocs, locsL, locs]), mapObj_id rfl (by simp) (by simp [objLocs, locsL, locs, locsL_append, encR_locs])]
    rfl

theorem reasons_loop (m : Nat) {L : List UInt8} (hl : L.length ≤ 1000) : ∀ (k n : Nat) (p : Nat) (acc : List (Int × Int)) (w : Bool) (t : List AVal) (h : AHeap), k ≤ 900 → acc.length + k ≤ 1000 →
    aGc rgi (loopB Try.f7 0) t h = ([.ptr 0 0 2, .top, .top, .ms 1 0 acc.length 2 acc.length false, .sc (.int .i64 k), .top, .top, .top, .top, .top, .top, .top, .top, .top, .top, .top, .top, .top, .top, .top], [codesO L p, .arr (encR acc) w]) →
    ∃ w' : Bool, aCode C0 (aCall C0 (m + 20)) rgi (n + k + 11) (.loop (loopB Try.f7 0)) t h = some (.exit 0,
      [.ptr 0 0 2, .top, .top, .ms 1 0 (acc ++ (reasonsAux L k p).1).length 2 (acc ++ (reasonsAux L k p).1).length false, .sc (.int .i64 0), .top, .top, .sc (.int .i64 0), .sc (.bool false), .top, .top, .top, .top, .top, .top, .top, .top, .top, .top, .top],
      [codesO L (reasonsAux L k p).2, .arr (encR (acc ++ (reasonsAux L k p).1)) w'])
  | 0, n, p, acc, w, t, h, _, _, hg => ⟨w, by
    simp only [reasonsAux, List.append_nil]
    exact loop_exit hg (reasons_exit _ n _ _)⟩
  | k + 1, n, p, acc, w, t, h, hk, hak, hg => by
    obtain ⟨t2, h2, hg2, he⟩ := loop_round_to hg (reasons_step m (n + k + 1) hl p k (by omega) acc w (by omega))
    obtain ⟨w', hw⟩ := reasons_loop m hl k n (nextK L (nextK L p 8) 6) (acc ++ [(nextV L p 8, nextV L (nextK L p 8) 6)]) false t2 h2 (by omega) (by simp; omega) (by simpa using hg2)
    refine ⟨w', ?_⟩
    rw [show n + (k + 1) + 11 = n + k + 11 + 1 by omega, he, hw]
    simp only [reasonsAux, List.append_assoc, List.cons_append, List.nil_append]

def reasonsF (L : List UInt8) (p : Nat) : List (Int × Int) × Nat := reasonsAux L (nextV L p 5).toNat (nextK L p 5)

theorem nextV_range (L : List UInt8) (k : Nat) {n : Int} (hn : 0 < n) : 0 ≤ nextV L k n ∧ nextV L k n < n := by
  unfold nextV
  split
  · omega
  · rename_i b _
    have : ¬ n < 1 := by omega
    rw [if_neg this, Int.tmod_eq_emod_of_nonneg (by omega)]
    exact ⟨Int.emod_nonneg _ (by omega), Int.emod_lt_of_pos _ hn⟩

theorem reasonsAux_length (L : List UInt8) : ∀ (k p : Nat), (reasonsAux L k p).1.length = k
  | 0, _ => rfl
  | k + 1, p => by simp [reasonsAux, reasonsAux_length L k]

theorem fn7 : C0.fn 7 = some { ntmps := 20, results := [.tmp 2], body := (Try.f7.body).getD .skip, live := liveTab 7 } := by kernel_rfl

/-- the loop, from the state in which the function comes to it -/
theorem reasons_enter (m : Nat) {L : List UInt8} (hl : L.length ≤ 1000) (p k : Nat) (hk : k ≤ 20) :
    ∃ (lv : AVal) (o : AHeap), (∀ x, aCode C0 (aCall C0 (m + 20)) rgi (x + 60) (.loop (loopB Try.f7 0)) [.ptr 0 0 2, .tup [], .sc (.slice none 0 0), .sc (.slice none 0 0), .sc (.int .i64 k), .ptr 0 0 2, .sc (.int .i64 k), .tup [], .tup [], .tup [], .tup [], .tup [], .tup [], .tup [], .tup [], .tup [], .tup [], .tup [], .tup [], .tup []] [codesO L p] =
      some (.exit 0, [.ptr 0 0 2, .top, .top, lv, .sc (.int .i64 0), .top, .top, .sc (.int .i64 0), .sc (.bool false), .top, .top, .top, .top, .top, .top, .top, .top, .top, .top, .top], codesO L (reasonsAux L k p).2 :: o)) ∧
      ((k = 0 ∧ lv = .sc (.slice none 0 0) ∧ o = []) ∨ ∃ w, lv = .ms 1 0 (reasonsAux L k p).1.length 2 (reasonsAux L k p).1.length false ∧ o = [.arr (encR (reasonsAux L k p).1) w]) := by
  have hg : aGc rgi (loopB Try.f7 0) [.ptr 0 0 2, .tup [], .sc (.slice none 0 0), .sc (.slice none 0 0), .sc (.int .i64 k), .ptr 0 0 2, .sc (.int .i64 k), .tup [], .tup [], .tup [], .tup [], .tup [], .tup [], .tup [], .tup [], .tup [], .tup [], .tup [], .tup [], .tup []] [codesO L p] =
      ([.ptr 0 0 2, .top, .top, .sc (.slice none 0 0), .sc (.int .i64 k), .top, .top, .top, .top, .top, .top, .top, .top, .top, .top, .top, .top, .top, .top, .top], [codesO L p]) :=
    aGc_flat (live := [0, 3, 4]) (L := [0]) (by kernel_rfl) (by kernel_rfl) (by simp [olocs, objLocs, locsL, locs, codesO]) (by decide) (by kernel_rfl) (by kernel_rfl)
  cases k with
  | zero => exact ⟨_, _, fun x => loop_exit hg (reasons_exit _ (x + 49) _ _), .inl ⟨rfl, rfl, rfl⟩⟩
  | succ k =>
    obtain ⟨t2, h2, hg2, he⟩ := loop_round_to hg (reasons_first m (k + 12) hl p k (by omega))
    obtain ⟨w', hw⟩ := reasons_loop m hl k 10 (nextK L (nextK L p 8) 6) [(nextV L p 8, nextV L (nextK L p 8) 6)] true t2 h2 (by omega) (by simp; omega) (by simpa using hg2)
    refine ⟨_, _, fun x => aCode_mono (CallLe.refl _) (n := k + 12 + 10 + 1) (by omega) ?_, .inr ⟨w', rfl, rfl⟩⟩
    rw [he, show k + 12 + 10 = 10 + k + 11 + 1 by omega]
    refine aCode_mono (CallLe.refl _) (n := 10 + k + 11) (by omega) ?_
    rw [hw]
    rfl

theorem reasons_core (m : Nat) {h : AHeap} {lo : Nat} {L : List UInt8} {p : Nat} (ho : h[lo]? = some (codesO L p)) (hl : L.length ≤ 1000) :
    aCore (aCall C0 (m + 100)) 7 [.ptr lo 0 2] h = some (.ret (.fs (encR (reasonsF L p).1) (reasonsF L p).1.length none), [(lo, codesO L (reasonsF L p).2)]) := by
  have hp : pos [lo] lo = some 0 := by simp [pos]
  rw [aCore_one (lo := lo) (o2 := codesO L p) (args2 := [.ptr 0 0 2]) rfl ho (by simp [codesO]) rfl (by simp [mapVL, mapV, relocIn, hp]) (by simp [mapObj, mapVL, mapV, relocIn, codesO])]
  have hv := nextV_range L p (n := 5) (by omega)
  have n5 := fun k rest => next_inv (m + 79) 5 (by omega) hl k rest
  obtain ⟨lv, o, hloop, hcase⟩ := reasons_enter (m + 79) hl (nextK L p 5) (nextV L p 5).toNat (by omega)
  rw [Int.toNat_of_nonneg hv.1] at hloop
  unfold aCall
  simp only [fn7]
  simp only [Try.f7, loopB, loopsOf, Option.getD_some, List.nil_append, List.append_nil, List.cons_append, List.getElem?_cons_zero, List.getElem?_cons_succ, List.getElem?_nil, rgi, codesO] at hloop
  simp only [Try.f7, Option.getD_some, List.length_cons, List.length_nil, List.cons_append, List.nil_append, Nat.reduceAdd, Nat.reduceSub, List.replicate, codesO]
  simp (maxSteps := 1000000) (disch := first | ((with_reducible show List.length _ = _); simp only [List.length_cons, List.length_nil, Nat.reduceAdd]; rfl) | ((with_reducible show quietRegion _ _ _ = true); decide +kernel) | ((with_reducible show aGc _ _ _ _ = _); exact id (by kernel_rfl)) | ((with_reducible show (edgesOk _ _ && pairsOk _ _ _) = true); exact id (by kernel_rfl))) only [aCode_seq, aCode_ops, aCode_cnd, aCode_skip, aCode_exit, aCode_ret, aCode_block, aCode_quiet, aOps_n, aOps_c, aWanted, aEval, ofVal, ofVal1, aPut_some, aPut_none, applyP_nil, applyP_cons,
    st_move, st_assign, st_load, st_store, st_fieldAddr, st_field, st_indexAddr, st_index, st_slice, st_build, st_pick, st_nilCheck, st_extract, st_binOp, st_unOp, st_convert, st_len, st_alloc, st_box, st_buildSlice, st_makeSlice, st_makeFunc, st_append,
    qr_some, rr_some, binV, unV, storeV, nilV, pickV, extV, intBin, loadV, mkV, storeW, fieldAddrV, fieldV, partV, idxS, idxA, lenS, sliceW, bnd, aBox, aNew, newSlice, appendV, srcCells, freeIdx, firstDead, AVal.cells, ld3, ld5, ld22, ld27, ld29, ld37, ld43, so3, so27, so37, so43, fa45_0, fa45_1, fa37_1, fa43_0, fa43_1, ix22, ix26, ix29, ix27, ln22, ln26, ln29, sl22, sl26, ap26, ap29, al27, al37, al43, cv53, bd43, bd45, bd37, bs29, bs26, AVal.oneCell, AVal.known,
    aResults, aResult, oneOr, List.set_cons_zero, List.set_cons_succ, List.getD_eq_getElem?_getD, List.getElem?_cons_succ, List.getElem?_cons_zero, List.getElem?_nil, Option.getD_some, List.getElem?_toArray, List.drop, List.take, List.drop_zero, List.take_zero, List.length_cons, List.length_nil,
    List.nil_append, List.cons_append, List.append_nil, List.map, List.all_cons, List.all_nil, List.replicate, Option.map_some, Option.map_none,
    ↓reduceIte, Nat.reduceAdd, Nat.reduceSub, Nat.reduceMul, Nat.reducePow, Nat.reduceLeDiff, Nat.reduceLT, Nat.reduceEqDiff, Nat.zero_add, Nat.add_zero, Nat.mul_one, Nat.zero_mul, Int.reduceLT, Int.reduceLE, Int.reduceToNat, Int.reduceNeg,
    decide_eq_true_eq, decide_true, decide_false, Bool.false_eq_true, Bool.not_true, Bool.not_false, beqTT, beqTF, beqFT, beqFF, beq_self_eq_true, Bool.and_self, and_self, and_true, true_and, not_true_eq_false, not_false_eq_true, Int.toNat_natCast, Int.natCast_nonneg, Int.cast_ofNat_Int, if_true, if_false, ite_true, ite_false, Option.isSome_none, Option.isSome_some, Option.getD_none, false_implies, forall_const, Bool.or_self, Option.map_none, n5, st_call fn6, hloop]
  rcases hcase with ⟨h0, rfl, rfl⟩ | ⟨w, rfl, rfl⟩
  · have hr : reasonsF L p = ([], nextK L p 5) := by simp only [reasonsF, h0, reasonsAux]
    rw [aBack_one (o2 := codesO L (nextK L p 5)) (e' := .ret (.fs [] 0 none)) (by simp [mapEnd, mapV, relocOut, canS]) (by simp [mapObj, mapVL, mapV, relocOut, codesO, h0, reasonsAux])]
    simp [hr, encR, codesO]
  · exact aBack_slice1 (encR_length _) (encR_fix _) (fun sub => by simp [mapObj, mapVL, mapV, relocOut, reasonsF])

end Go.Proofs.Ytjfdjendaagccaa

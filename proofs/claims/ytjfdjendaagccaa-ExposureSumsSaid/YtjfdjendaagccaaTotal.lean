/-
  The inner loop of the statement: a reply's counts added to those of all.
-/
import Derived.Test.YtjfdjendaagccaaSum
namespace Go.Proofs.Ytjfdjendaagccaa
open Go Go.Proofs Go.Proofs.Ae
set_option linter.unusedSimpArgs false
set_option linter.unusedVariables false
set_option linter.unnecessarySimpa false

def mgi : GcI := ⟨0, liveTab 3⟩

def mix (A B : List Nat) (i : Nat) : List Int := (List.range 7).map fun k => ((A.count k : Nat) : Int) + if k < i then ((B.count k : Nat) : Int) else 0

theorem mix_length (A B : List Nat) (i : Nat) : (mix A B i).length = 7 := by simp [mix]
theorem mix_zero (A B : List Nat) : mix A B 0 = hist A := by simp [mix, hist]
theorem mix_seven (A B : List Nat) : mix A B 7 = hist (A ++ B) := by
  apply List.ext_getElem
  · simp [mix, hist]
  · intro i h1 h2
    have h3 : i < 7 := by simpa [mix] using h1
    simp [mix, hist, h3, List.count_append]
theorem mix_get (A B : List Nat) {i : Nat} (hi : i < 7) : (mix A B i)[i]? = some ((A.count i : Nat) : Int) := by
  simp [mix, hi]
theorem mix_bump (A B : List Nat) {i : Nat} (hi : i < 7) : (mix A B i).set i (((A.count i : Nat) : Int) + ((B.count i : Nat) : Int)) = mix A B (i + 1) := by
  apply List.ext_getElem
  · simp [mix]
  · intro k h1 h2
    simp only [List.getElem_set]
    simp only [mix, List.getElem_map, List.getElem_range]
    by_cases h : i = k
    · subst h; simp
    · by_cases h' : k < i
      · have : k < i + 1 := by omega
        simp [h, h', this]
      · have : ¬ k < i + 1 := by omega
        simp [h, h', this]

def part (B : List Nat) : Nat → Nat
  | 0 => 0
  | i + 1 => part B i + B.count i

theorem part_le (B : List Nat) : ∀ i, part B i ≤ B.length * i
  | 0 => by simp [part]
  | i + 1 => by
    have := part_le B i
    have h2 := List.count_le_length (a := i) (l := B)
    simp only [part, Nat.mul_succ]
    omega

theorem part_count (B : List Nat) : ∀ i, part B i = (B.filter fun b => decide (b < i)).length
  | 0 => by
    have : (B.filter fun b => decide (b < 0)) = [] := List.filter_eq_nil_iff.2 fun b _ => by simp
    rw [this]; rfl
  | i + 1 => by
    rw [part, part_count B i, List.count_eq_length_filter]
    induction B with
    | nil => rfl
    | cons b B ih =>
      simp only [List.filter_cons]
      by_cases h1 : b < i
      · have h2 : b < i + 1 := by omega
        have h3 : (b == i) = false := by simp; omega
        simp only [h1, h2, h3, decide_true, if_true, List.length_cons, Bool.false_eq_true, if_false]
        omega
      · by_cases h4 : b = i
        · subst h4
          have h2 : b < b + 1 := by omega
          simp only [Nat.lt_irrefl, h2, decide_true, decide_false, if_true, List.length_cons, Bool.false_eq_true, if_false, beq_self_eq_true]
          omega
        · have h2 : ¬ b < i + 1 := by omega
          have h3 : (b == i) = false := by simp; omega
          simp only [h1, h2, h3, decide_false, Bool.false_eq_true, if_false]
          exact ih

theorem part_all {B : List Nat} (h : ∀ b, b ∈ B → b < 7) : part B 7 = B.length := by
  rw [part_count, List.filter_eq_self.2 (by simpa using h)]

theorem tot_exit (call : CallF) (n : Nat) (lv tv : AVal) (k all : Int) (h : AHeap) :
    aCode C0 call mgi (n + 10) (loopB Try.f3 1) [.top, .top, .top, .ptr 0 0 2, lv, tv, .ptr 3 0 7, .sc (.int .i64 k), .ptr 4 0 7, .top, .ptr 5 0 7, .sc (.int .i64 all), .sc (.int .i64 (7 : Nat)), .top, .top, .top, .top, .top, .top, .top, .top, .top, .top, .top, .top, .top, .top, .top, .top, .top, .top, .top, .top, .top, .top, .top, .top, .top, .top, .top, .top, .top, .top, .top, .top, .top, .top, .top, .top, .top, .top, .top, .top, .top, .top, .top, .top, .top, .top, .top, .top, .top, .top, .top, .top, .top, .top, .top, .top, .top, .top, .top, .top, .top, .top, .top, .top, .top, .top, .top, .top] h =
      some (.exit 2, [.top, .top, .top, .ptr 0 0 2, lv, tv, .ptr 3 0 7, .sc (.int .i64 k), .ptr 4 0 7, .top, .ptr 5 0 7, .sc (.int .i64 all), .sc (.int .i64 (7 : Nat)), .top, .top, .top, .top, .top, .top, .top, .top, .top, .top, .top, .top, .top, .top, .top, .top, .top, .top, .top, .top, .top, .top, .top, .top, .top, .top, .top, .top, .top, .top, .top, .top, .top, .top, .top, .top, .sc (.int .i64 (7 : Nat)), .sc (.bool false), .top, .top, .top, .top, .top, .top, .top, .top, .top, .top, .top, .top, .top, .top, .top, .top, .top, .top, .top, .top, .top, .top, .top, .top, .top, .top, .top, .top, .top, .top], h) := by
  simp only [Try.f3, loopB, loopsOf, Option.getD_some, List.nil_append, List.append_nil, List.cons_append, List.getElem?_cons_zero, List.getElem?_cons_succ, List.getElem?_nil]
  simp (maxSteps := 1000000) (disch := first | ((with_reducible show List.length _ = _); simp only [List.length_cons, List.length_nil, Nat.reduceAdd]; rfl) | ((with_reducible show quietRegion _ _ _ = true); decide +kernel) | ((with_reducible show aGc _ _ _ _ = _); exact id (by kernel_rfl)) | ((with_reducible show (edgesOk _ _ && pairsOk _ _ _) = true); exact id (by kernel_rfl))) only [aCode_seq, aCode_ops, aCode_cnd, aCode_skip, aCode_exit, aCode_ret, aCode_block, aCode_quiet, aOps_n, aOps_c, aWanted, aEval, ofVal, ofVal1, aPut_some, aPut_none, applyP_nil, applyP_cons,
    st_move, st_assign, st_load, st_store, st_fieldAddr, st_field, st_indexAddr, st_index, st_slice, st_build, st_pick, st_nilCheck, st_extract, st_binOp, st_unOp, st_convert, st_len, st_alloc, st_box, st_buildSlice, st_makeSlice, st_makeFunc, st_append,
    qr_some, rr_some, binV, unV, storeV, nilV, pickV, extV, intBin, loadV, mkV, storeW, fieldAddrV, fieldV, partV, idxS, idxA, lenS, sliceW, bnd, aBox, aNew, newSlice, appendV, srcCells, freeIdx, firstDead, AVal.cells, ld3, ld5, ld22, ld27, ld29, ld37, ld43, so3, so27, so37, so43, fa45_0, fa45_1, fa37_1, fa43_0, fa43_1, ix22, ix26, ix29, ix27, ln22, ln26, ln29, sl22, sl26, ap26, ap29, al27, al37, al43, cv53, bd43, bd45, bd37, bs29, bs26, AVal.oneCell, AVal.known,
    aResults, aResult, oneOr, List.set_cons_zero, List.set_cons_succ, List.getD_eq_getElem?_getD, List.getElem?_cons_succ, List.getElem?_cons_zero, List.getElem?_nil, Option.getD_some, List.getElem?_toArray, List.drop, List.take, List.drop_zero, List.take_zero, List.length_cons, List.length_nil,
    List.nil_append, List.cons_append, List.append_nil, List.map, List.all_cons, List.all_nil, List.replicate, Option.map_some, Option.map_none,
    ↓reduceIte, Nat.reduceAdd, Nat.reduceSub, Nat.reduceMul, Nat.reducePow, Nat.reduceLeDiff, Nat.reduceLT, Nat.reduceEqDiff, Nat.zero_add, Nat.add_zero, Nat.mul_one, Nat.zero_mul, Int.reduceLT, Int.reduceLE, Int.reduceToNat, Int.reduceNeg,
    decide_eq_true_eq, decide_true, decide_false, Bool.false_eq_true, Bool.not_true, Bool.not_false, beqTT, beqTF, beqFT, beqFF, beq_self_eq_true, Bool.and_self, and_self, and_true, true_and, not_true_eq_false, not_false_eq_true, Int.toNat_natCast, Int.natCast_nonneg, Int.cast_ofNat_Int, if_true, if_false, ite_true, ite_false, Option.isSome_none, Option.isSome_some, Option.getD_none, false_implies, forall_const, Bool.or_self, Option.map_none, Int.lt_irrefl]

set_option maxRecDepth 100000 in
set_option maxHeartbeats 2000000 in
theorem tot_step (call : CallF) (n : Nat) (L : List UInt8) (p : Nat) (l tn : List (List (Int × Int))) (r : List (Int × Int)) (w1 w2 : Bool) (a : Nat) (k : Int) (A B : List Nat) (hA : A.length ≤ 100000) (hB : B.length ≤ 100000) {i : Nat} (hi : i < 7) :
    roundTo mgi (loopB Try.f3 1) (aCode C0 call mgi (n + 20) (loopB Try.f3 1)
      [.top, .top, .top, .ptr 0 0 2, .ms 1 0 a 7 a false, .ms 2 0 a 7 a false, .ptr 3 0 7, .sc (.int .i64 k), .ptr 4 0 7, .top, .ptr 5 0 7, .sc (.int .i64 (part B i : Nat)), .sc (.int .i64 i), .top, .top, .top, .top, .top, .top, .top, .top, .top, .top, .top, .top, .top, .top, .top, .top, .top, .top, .top, .top, .top, .top, .top, .top, .top, .top, .top, .top, .top, .top, .top, .top, .top, .top, .top, .top, .top, .top, .top, .top, .top, .top, .top, .top, .top, .top, .top, .top, .top, .top, .top, .top, .top, .top, .top, .top, .top, .top, .top, .top, .top, .top, .top, .top, .top, .top, .top, .top]
      [codesO L p, .arr (encY l) w1, .arr (encY tn) w2, .arr (encI (mix A B i)) true, .arr (encY1 r) true, .arr (encI (hist B)) true]) =
      some ([.top, .top, .top, .ptr 0 0 2, .ms 1 0 a 7 a false, .ms 2 0 a 7 a false, .ptr 3 0 7, .sc (.int .i64 k), .ptr 4 0 7, .top, .ptr 5 0 7, .sc (.int .i64 (part B (i + 1) : Nat)), .sc (.int .i64 (i + 1 : Nat)), .top, .top, .top, .top, .top, .top, .top, .top, .top, .top, .top, .top, .top, .top, .top, .top, .top, .top, .top, .top, .top, .top, .top, .top, .top, .top, .top, .top, .top, .top, .top, .top, .top, .top, .top, .top, .top, .top, .top, .top, .top, .top, .top, .top, .top, .top, .top, .top, .top, .top, .top, .top, .top, .top, .top, .top, .top, .top, .top, .top, .top, .top, .top, .top, .top, .top, .top, .top],
      [codesO L p, .arr (encY l) w1, .arr (encY tn) w2, .arr (encI (mix A B (i + 1))) true, .arr (encY1 r) true, .arr (encI (hist B)) true]) := by
  have h1 : (i : Int) < 7 := by omega
  have hk1 : i + 1 ≤ 7 := by omega
  have c1 := List.count_le_length (a := i) (l := A)
  have c2 := List.count_le_length (a := i) (l := B)
  have c3 := part_le B i
  have c4 : B.length * i ≤ 100000 * 7 := Nat.mul_le_mul hB (by omega)
  have w0 : IntKind.i64.wrap ((i : Int) + 1) = ((i + 1 : Nat) : Int) := by rw [wrap_i64 (by omega) (by omega)]; omega
  have w1 : IntKind.i64.wrap (((A.count i : Nat) : Int) + ((B.count i : Nat) : Int)) = ((A.count i : Nat) : Int) + ((B.count i : Nat) : Int) := wrap_i64 (by omega) (by omega)
  have w2 : IntKind.i64.wrap (((part B i : Nat) : Int) + ((B.count i : Nat) : Int)) = ((part B (i + 1) : Nat) : Int) := by rw [wrap_i64 (by omega) (by omega), part]; omega
  have e1 := encI_at (mix_get A B hi)
  have e2 := encI_at (hist_get B hi)
  have e3 : List.take i (encI (mix A B i)) ++ [AVal.sc (.int .i64 (((A.count i : Nat) : Int) + ((B.count i : Nat) : Int)))] ++ List.drop (i + 1) (encI (mix A B i)) = encI (mix A B (i + 1)) := by
    rw [encI_set (by rw [mix_length]; exact hi), mix_bump A B hi]
  have hl1 : (encI (mix A B i)).length = 7 := by simp [encI, mix_length]
  simp only [Try.f3, loopB, loopsOf, Option.getD_some, List.nil_append, List.append_nil, List.cons_append, List.getElem?_cons_zero, List.getElem?_cons_succ, List.getElem?_nil]
  simp (maxSteps := 1000000) (disch := first | ((with_reducible show List.length _ = _); simp only [List.length_cons, List.length_nil, Nat.reduceAdd]; rfl) | ((with_reducible show quietRegion _ _ _ = true); decide +kernel) | ((with_reducible show aGc _ _ _ _ = _); exact id (by kernel_rfl)) | ((with_reducible show (edgesOk _ _ && pairsOk _ _ _) = true); exact id (by kernel_rfl))) only [aCode_seq, aCode_ops, aCode_cnd, aCode_skip, aCode_exit, aCode_ret, aCode_block, aCode_quiet, aOps_n, aOps_c, aWanted, aEval, ofVal, ofVal1, aPut_some, aPut_none, applyP_nil, applyP_cons,
    st_move, st_assign, st_load, st_store, st_fieldAddr, st_field, st_indexAddr, st_index, st_slice, st_build, st_pick, st_nilCheck, st_extract, st_binOp, st_unOp, st_convert, st_len, st_alloc, st_box, st_buildSlice, st_makeSlice, st_makeFunc, st_append,
    qr_some, rr_some, binV, unV, storeV, nilV, pickV, extV, intBin, loadV, mkV, storeW, fieldAddrV, fieldV, partV, idxS, idxA, lenS, sliceW, bnd, aBox, aNew, newSlice, appendV, srcCells, freeIdx, firstDead, AVal.cells, ld3, ld5, ld22, ld27, ld29, ld37, ld43, so3, so27, so37, so43, fa45_0, fa45_1, fa37_1, fa43_0, fa43_1, ix22, ix26, ix29, ix27, ln22, ln26, ln29, sl22, sl26, ap26, ap29, al27, al37, al43, cv53, bd43, bd45, bd37, bs29, bs26, AVal.oneCell, AVal.known,
    aResults, aResult, oneOr, List.set_cons_zero, List.set_cons_succ, List.getD_eq_getElem?_getD, List.getElem?_cons_succ, List.getElem?_cons_zero, List.getElem?_nil, Option.getD_some, List.getElem?_toArray, List.drop, List.take, List.drop_zero, List.take_zero, List.length_cons, List.length_nil,
    List.nil_append, List.cons_append, List.append_nil, List.map, List.all_cons, List.all_nil, List.replicate, Option.map_some, Option.map_none,
    ↓reduceIte, Nat.reduceAdd, Nat.reduceSub, Nat.reduceMul, Nat.reducePow, Nat.reduceLeDiff, Nat.reduceLT, Nat.reduceEqDiff, Nat.zero_add, Nat.add_zero, Nat.mul_one, Nat.zero_mul, Int.reduceLT, Int.reduceLE, Int.reduceToNat, Int.reduceNeg,
    decide_eq_true_eq, decide_true, decide_false, Bool.false_eq_true, Bool.not_true, Bool.not_false, beqTT, beqTF, beqFT, beqFF, beq_self_eq_true, Bool.and_self, and_self, and_true, true_and, not_true_eq_false, not_false_eq_true, Int.toNat_natCast, Int.natCast_nonneg, Int.cast_ofNat_Int, if_true, if_false, ite_true, ite_false, Option.isSome_none, Option.isSome_some, Option.getD_none, false_implies, forall_const, Bool.or_self, Option.map_none, h1, hk1, w0, w1, w2, e1, e2, e3, hl1, roundTo, Nat.le_refl, aCode_drawK (id := 18), drawK_n, drawK_c, withSlots, nSlots, ak_move, ak_assign, ak_pick, ak_binOp, ak_unOp, ak_nilCheck, ak_fieldAddr, ak_field, ak_indexAddr, ak_index, ak_slice, ak_build, ak_extract, ak_makeFunc, ak_makeInterface, ak_len, ak_load, ak_store, ak_call, ak_alloc, ak_box, ak_buildSlice, ak_makeSlice, ak_append, dstOk, ft_move, ft_assign, ft_pick, ft_binOp, ft_unOp, ft_nilCheck, ft_fieldAddr, ft_field, ft_indexAddr, ft_index, ft_slice, ft_build, ft_extract, ft_makeFunc, ft_makeInterface, ft_len, ft_load, ft_store, ft_convert, ft_alloc, ft_box, ft_buildSlice, ft_makeSlice, ft_append, ft_call, drawEnd_ok, List.all_cons, List.all_nil, List.contains_cons, List.contains_nil, Nat.reduceBEq, Bool.or_false, Bool.or_true, Bool.false_or, Bool.true_or, List.length_append, List.length_replicate, Option.toList_some, Option.toList_none, locs, List.flatMap_cons, List.flatMap_nil]
  refine congrArg some (aGc_at (live := [3, 4, 5, 6, 7, 8, 10, 11, 12]) (L := [0, 1, 2, 3, 4, 5]) (by kernel_rfl) (by kernel_rfl) (by decide) (by kernel_rfl) ?_)
  exact .cons rfl (flat_arr _ rfl) (.cons rfl (flat_arr _ (encY_locs _)) (.cons rfl (flat_arr _ (encY_locs _)) (.cons rfl (flat_arr _ (encI_locs _)) (.cons rfl (flat_arr _ rfl) (.cons rfl (flat_arr _ (encI_locs _)) .nil)))))

theorem tot_loop (call : CallF) (L : List UInt8) (p : Nat) (l tn : List (List (Int × Int))) (r : List (Int × Int)) (w1 w2 : Bool) (a : Nat) (k : Int) (A B : List Nat) (hA : A.length ≤ 100000) (hB : B.length ≤ 100000) :
    ∀ (d i n : Nat) (t : List AVal) (h : AHeap), i + d = 7 →
    aGc mgi (loopB Try.f3 1) t h = ([.top, .top, .top, .ptr 0 0 2, .ms 1 0 a 7 a false, .ms 2 0 a 7 a false, .ptr 3 0 7, .sc (.int .i64 k), .ptr 4 0 7, .top, .ptr 5 0 7, .sc (.int .i64 (part B i : Nat)), .sc (.int .i64 i), .top, .top, .top, .top, .top, .top, .top, .top, .top, .top, .top, .top, .top, .top, .top, .top, .top, .top, .top, .top, .top, .top, .top, .top, .top, .top, .top, .top, .top, .top, .top, .top, .top, .top, .top, .top, .top, .top, .top, .top, .top, .top, .top, .top, .top, .top, .top, .top, .top, .top, .top, .top, .top, .top, .top, .top, .top, .top, .top, .top, .top, .top, .top, .top, .top, .top, .top, .top],
      [codesO L p, .arr (encY l) w1, .arr (encY tn) w2, .arr (encI (mix A B i)) true, .arr (encY1 r) true, .arr (encI (hist B)) true]) →
    aCode C0 call mgi (n + d + 21) (.loop (loopB Try.f3 1)) t h = some (.exit 2,
      [.top, .top, .top, .ptr 0 0 2, .ms 1 0 a 7 a false, .ms 2 0 a 7 a false, .ptr 3 0 7, .sc (.int .i64 k), .ptr 4 0 7, .top, .ptr 5 0 7, .sc (.int .i64 (part B 7 : Nat)), .sc (.int .i64 (7 : Nat)), .top, .top, .top, .top, .top, .top, .top, .top, .top, .top, .top, .top, .top, .top, .top, .top, .top, .top, .top, .top, .top, .top, .top, .top, .top, .top, .top, .top, .top, .top, .top, .top, .top, .top, .top, .top, .sc (.int .i64 (7 : Nat)), .sc (.bool false), .top, .top, .top, .top, .top, .top, .top, .top, .top, .top, .top, .top, .top, .top, .top, .top, .top, .top, .top, .top, .top, .top, .top, .top, .top, .top, .top, .top, .top, .top],
      [codesO L p, .arr (encY l) w1, .arr (encY tn) w2, .arr (encI (mix A B 7)) true, .arr (encY1 r) true, .arr (encI (hist B)) true])
  | 0, i, n, t, h, hi, hg => by
    have e : i = 7 := by omega
    subst e
    exact loop_exit hg (tot_exit call (n + 10) _ _ _ _ _)
  | d + 1, i, n, t, h, hi, hg => by
    obtain ⟨t2, h2, hg2, he⟩ := loop_round_to hg (tot_step call (n + d + 1) L p l tn r w1 w2 a k A B hA hB (show i < 7 by omega))
    rw [show n + (d + 1) + 21 = n + d + 1 + 20 + 1 by omega, he, show n + d + 1 + 20 = n + d + 21 by omega]
    exact tot_loop call L p l tn r w1 w2 a k A B hA hB d (i + 1) n t2 h2 (by omega) hg2

end Go.Proofs.Ytjfdjendaagccaa

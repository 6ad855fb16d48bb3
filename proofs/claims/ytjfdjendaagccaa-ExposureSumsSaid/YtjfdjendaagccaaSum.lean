/-
  The sum of the reasons of replies.
-/
import Derived.Test.YtjfdjendaagccaaReasons
namespace Go.Proofs.Ytjfdjendaagccaa
open Go Go.Proofs Go.Proofs.Ae
set_option linter.unusedSimpArgs false
set_option linter.unusedVariables false
set_option linter.unnecessarySimpa false

def encI (l : List Int) : List AVal := l.map fun n => .sc (.int .i64 n)

theorem encI_locs : ∀ l : List Int, locsL (encI l) = []
  | [] => rfl
  | a :: l => by have := encI_locs l; simp only [encI, List.map_cons, locsL, locs] at *; simpa using this
theorem encI_fix : ∀ l : List Int, FixL (encI l)
  | [] => .nil
  | a :: l => .cons (fix_int _ _) (encI_fix l)

def binOf (k : Int) : Nat := if k < 0 ∨ k ≥ 7 then 0 else k.toNat
theorem binOf_lt (k : Int) : binOf k < 7 := by unfold binOf; split <;> omega

def hist (bins : List Nat) : List Int := (List.range 7).map fun k => ((bins.count k : Nat) : Int)

theorem hist_length (bins : List Nat) : (hist bins).length = 7 := by simp [hist]
theorem hist_get (bins : List Nat) {k : Nat} (hk : k < 7) : (hist bins)[k]? = some ((bins.count k : Nat) : Int) := by
  simp [hist, hk]
theorem hist_bump (bins : List Nat) {b : Nat} (hb : b < 7) : (hist bins).set b (((bins.count b : Nat) : Int) + 1) = hist (bins ++ [b]) := by
  apply List.ext_getElem
  · simp [hist]
  · intro i h1 h2
    simp only [List.getElem_set]
    simp only [hist, List.getElem_map, List.getElem_range, List.count_append, List.count_singleton]
    by_cases h : b = i
    · subst h; simp
    · simp [h]

/-- the cells of a reply that has only reasons -/
def encY1 (r : List (Int × Int)) : List AVal := [.sc (.int .i64 0), .sc (.int .i64 0), .sc (.int .i64 0), .sc (.bool false), .sc (.string .empty), .sc (.int .i64 0), .fs (encR r) r.length none]
def encY : List (List (Int × Int)) → List AVal
  | [] => []
  | r :: l => encY1 r ++ encY l

theorem encY_locs : ∀ l : List (List (Int × Int)), locsL (encY l) = []
  | [] => rfl
  | r :: l => by rw [encY, locsL_append, encY_locs l]; rfl
theorem encY_length : ∀ l : List (List (Int × Int)), (encY l).length = l.length * 7
  | [] => rfl
  | r :: l => by simp [encY, encY1, encY_length l]; omega
theorem encY_append : ∀ l l' : List (List (Int × Int)), encY (l ++ l') = encY l ++ encY l'
  | [], _ => rfl
  | r :: l, l' => by simp [encY, encY_append l l']
theorem encY_fix : ∀ l : List (List (Int × Int)), FixL (encY l)
  | [] => .nil
  | r :: l => .append (.cons (fix_int _ _) (.cons (fix_int _ _) (.cons (fix_int _ _) (.cons (fix_bool _) (.cons (fix_string _) (.cons (fix_int _ _) (.cons (fix_fs _ _) .nil))))))) (encY_fix l)
theorem encY_take : ∀ (l : List (List (Int × Int))) (n : Nat), (encY l).take (n * 7) = encY (l.take n)
  | [], n => by simp [encY]
  | r :: l, 0 => by simp [encY]
  | r :: l, n + 1 => by
    rw [show (n + 1) * 7 = (encY1 r).length + n * 7 by simp [encY1]; omega, encY, List.take_length_add_append, encY_take l n]
    rfl
theorem encY_drop : ∀ (l : List (List (Int × Int))) (n : Nat), (encY l).drop (n * 7) = encY (l.drop n)
  | [], n => by simp [encY]
  | r :: l, 0 => by simp [encY]
  | r :: l, n + 1 => by
    rw [show (n + 1) * 7 = (encY1 r).length + n * 7 by simp [encY1]; omega, encY, List.drop_length_add_append, encY_drop l n]
    rfl
theorem encY_at {l : List (List (Int × Int))} {i : Nat} {r : List (Int × Int)} (h : l[i]? = some r) : List.take 7 (List.drop (i * 7) (encY l)) = encY1 r := by
  obtain ⟨h1, h2⟩ := List.getElem?_eq_some_iff.1 h
  rw [encY_drop, List.drop_eq_getElem_cons h1, h2]
  rfl
theorem encR_at : ∀ {l : List (Int × Int)} {i : Nat} {r : Int × Int} (_ : l[i]? = some r), List.take 2 (List.drop (i * 2) (encR l)) = [.sc (.int .i64 r.1), .sc (.int .i64 r.2)]
  | (a, b) :: l, 0, r, h => by simp at h; subst h; rfl
  | (a, b) :: l, i + 1, r, h => by
    rw [show (i + 1) * 2 = i * 2 + 1 + 1 by omega, encR, List.drop_succ_cons, List.drop_succ_cons]
    exact encR_at (by simpa using h)

def sgi : GcI := ⟨0, liveTab 8⟩

def z7 : AObj := .arr [.sc (.int .i64 0), .sc (.int .i64 0), .sc (.int .i64 0), .sc (.int .i64 0), .sc (.int .i64 0), .sc (.int .i64 0), .sc (.int .i64 0)] true

theorem encI_at {l : List Int} {k : Nat} {v : Int} (h : l[k]? = some v) : List.take 1 (List.drop k (encI l)) = [.sc (.int .i64 v)] := by
  obtain ⟨h1, h2⟩ := List.getElem?_eq_some_iff.1 h
  rw [encI, ← List.map_drop, List.drop_eq_getElem_cons h1, h2]
  rfl
theorem encI_set {l : List Int} {k : Nat} {v : Int} (h : k < l.length) : List.take k (encI l) ++ [.sc (.int .i64 v)] ++ List.drop (k + 1) (encI l) = encI (l.set k v) := by
  rw [encI, encI, List.set_eq_take_append_cons_drop, if_pos h]
  simp [List.map_take, List.map_drop]

theorem sum_in_exit (call : CallF) (n : Nat) (yv rv : AVal) (N i len : Int) (h : AHeap) :
    aCode C0 call sgi (n + 10) (loopB Try.f8 1) [.top, .top, .ptr 0 0 7, .ptr 1 0 7, .top, .top, .top, .top, yv, .sc (.int .i64 N), .sc (.int .i64 i), .top, .top, .top, .top, rv, .sc (.int .i64 len), .sc (.int .i64 len), .top, .top, .top, .top, .top, .top, .top, .top, .top, .top, .top, .top, .top, .top, .top, .top, .top, .top, .top, .top, .top, .top, .top, .top] h =
      some (.exit 2, [.top, .top, .ptr 0 0 7, .ptr 1 0 7, .top, .top, .top, .top, yv, .sc (.int .i64 N), .sc (.int .i64 i), .top, .top, .top, .top, rv, .sc (.int .i64 len), .sc (.int .i64 len), .sc (.bool false), .top, .top, .top, .top, .top, .top, .top, .top, .top, .top, .top, .top, .top, .top, .top, .top, .top, .top, .top, .top, .top, .top, .top], h) := by
  simp only [Try.f8, loopB, loopsOf, Option.getD_some, List.nil_append, List.append_nil, List.cons_append, List.getElem?_cons_zero, List.getElem?_cons_succ, List.getElem?_nil]
  simp (maxSteps := 1000000) (disch := first | ((with_reducible show List.length _ = _); simp only [List.length_cons, List.length_nil, Nat.reduceAdd]; rfl) | ((with_reducible show quietRegion _ _ _ = true); decide +kernel) | ((with_reducible show aGc _ _ _ _ = _); exact id (by kernel_rfl)) | ((with_reducible show (edgesOk _ _ && pairsOk _ _ _) = true); exact id (by kernel_rfl))) only [aCode_seq, aCode_ops, aCode_cnd, aCode_skip, aCode_exit, aCode_ret, aCode_block, aCode_quiet, aOps_n, aOps_c, aWanted, aEval, ofVal, ofVal1, aPut_some, aPut_none, applyP_nil, applyP_cons,
    st_move, st_assign, st_load, st_store, st_fieldAddr, st_field, st_indexAddr, st_index, st_slice, st_build, st_pick, st_nilCheck, st_extract, st_binOp, st_unOp, st_convert, st_len, st_alloc, st_box, st_buildSlice, st_makeSlice, st_makeFunc, st_append,
    qr_some, rr_some, binV, unV, storeV, nilV, pickV, extV, intBin, loadV, mkV, storeW, fieldAddrV, fieldV, partV, idxS, idxA, lenS, sliceW, bnd, aBox, aNew, newSlice, appendV, srcCells, freeIdx, firstDead, AVal.cells, ld3, ld5, ld22, ld27, ld29, ld37, ld43, so3, so27, so37, so43, fa45_0, fa45_1, fa37_1, fa43_0, fa43_1, ix22, ix26, ix29, ix27, ln22, ln26, ln29, sl22, sl26, ap26, ap29, al27, al37, al43, cv53, bd43, bd45, bd37, bs29, bs26, AVal.oneCell, AVal.known,
    aResults, aResult, oneOr, List.set_cons_zero, List.set_cons_succ, List.getD_eq_getElem?_getD, List.getElem?_cons_succ, List.getElem?_cons_zero, List.getElem?_nil, Option.getD_some, List.getElem?_toArray, List.drop, List.take, List.drop_zero, List.take_zero, List.length_cons, List.length_nil,
    List.nil_append, List.cons_append, List.append_nil, List.map, List.all_cons, List.all_nil, List.replicate, Option.map_some, Option.map_none,
    ↓reduceIte, Nat.reduceAdd, Nat.reduceSub, Nat.reduceMul, Nat.reducePow, Nat.reduceLeDiff, Nat.reduceLT, Nat.reduceEqDiff, Nat.zero_add, Nat.add_zero, Nat.mul_one, Nat.zero_mul, Int.reduceLT, Int.reduceLE, Int.reduceToNat, Int.reduceNeg,
    decide_eq_true_eq, decide_true, decide_false, Bool.false_eq_true, Bool.not_true, Bool.not_false, beqTT, beqTF, beqFT, beqFF, beq_self_eq_true, Bool.and_self, and_self, and_true, true_and, not_true_eq_false, not_false_eq_true, Int.toNat_natCast, Int.natCast_nonneg, Int.cast_ofNat_Int, if_true, if_false, ite_true, ite_false, Option.isSome_none, Option.isSome_some, Option.getD_none, false_implies, forall_const, Bool.or_self, Option.map_none, Int.lt_irrefl]

theorem sum_in_step (call : CallF) (n : Nat) {ys : List (List (Int × Int))} (N i : Int) {rs : List (Int × Int)} {j : Nat} {r : Int × Int} (hr : rs[j]? = some r) (hrl : rs.length ≤ 1000) (bins : List Nat) (hb : bins.length ≤ 1000000) :
    roundTo sgi (loopB Try.f8 1) (aCode C0 call sgi (n + 20) (loopB Try.f8 1)
      [.top, .top, .ptr 0 0 7, .ptr 1 0 7, .top, .top, .top, .top, .fs (encY ys) ys.length none, .sc (.int .i64 N), .sc (.int .i64 i), .top, .top, .top, .top, .fs (encR rs) rs.length none, .sc (.int .i64 rs.length), .sc (.int .i64 j), .top, .top, .top, .top, .top, .top, .top, .top, .top, .top, .top, .top, .top, .top, .top, .top, .top, .top, .top, .top, .top, .top, .top, .top] [z7, .arr (encI (hist bins)) true]) =
      some ([.top, .top, .ptr 0 0 7, .ptr 1 0 7, .top, .top, .top, .top, .fs (encY ys) ys.length none, .sc (.int .i64 N), .sc (.int .i64 i), .top, .top, .top, .top, .fs (encR rs) rs.length none, .sc (.int .i64 rs.length), .sc (.int .i64 (j + 1 : Nat)), .top, .top, .top, .top, .top, .top, .top, .top, .top, .top, .top, .top, .top, .top, .top, .top, .top, .top, .top, .top, .top, .top, .top, .top],
        [z7, .arr (encI (hist (bins ++ [binOf r.1]))) true]) := by
  have hj : j < rs.length := (List.getElem?_eq_some_iff.1 hr).1
  have h1 : (j : Int) < rs.length := by omega
  have w1 : IntKind.i64.wrap ((j : Int) + 1) = ((j + 1 : Nat) : Int) := by rw [wrap_i64 (by omega) (by omega)]; omega
  have hlen : (encI (hist bins)).length = 7 := by simp [encI, hist_length]
  have hfin : ∀ b, b < 7 → List.take b (encI (hist bins)) ++ [AVal.sc (.int .i64 (((bins.count b : Nat) : Int) + 1))] ++ List.drop (b + 1) (encI (hist bins)) = encI (hist (bins ++ [b])) :=
    fun b hb => by rw [encI_set (by rw [hist_length]; exact hb), hist_bump bins hb]
  have w2 : ∀ b, IntKind.i64.wrap (((bins.count b : Nat) : Int) + 1) = ((bins.count b : Nat) : Int) + 1 := fun b => by
    have := List.count_le_length (a := b) (l := bins)
    rw [wrap_i64 (by omega) (by omega)]
  obtain ⟨a, b⟩ := r
  simp only [Try.f8, loopB, loopsOf, Option.getD_some, List.nil_append, List.append_nil, List.cons_append, List.getElem?_cons_zero, List.getElem?_cons_succ, List.getElem?_nil, z7]
  by_cases ha : a < 0
  · have hbin : binOf a = 0 := by simp [binOf, ha]
    have e1 := encI_at (hist_get bins (show 0 < 7 by omega))
    have e2 := hfin 0 (by omega)
    simp only [List.take_zero, List.nil_append, List.cons_append, Nat.zero_add, List.drop_zero] at e1 e2
    simp (maxSteps := 1000000) (disch := first | ((with_reducible show List.length _ = _); simp only [List.length_cons, List.length_nil, Nat.reduceAdd]; rfl) | ((with_reducible show quietRegion _ _ _ = true); decide +kernel) | ((with_reducible show aGc _ _ _ _ = _); exact id (by kernel_rfl)) | ((with_reducible show (edgesOk _ _ && pairsOk _ _ _) = true); exact id (by kernel_rfl))) only [aCode_seq, aCode_ops, aCode_cnd, aCode_skip, aCode_exit, aCode_ret, aCode_block, aCode_quiet, aOps_n, aOps_c, aWanted, aEval, ofVal, ofVal1, aPut_some, aPut_none, applyP_nil, applyP_cons,
    st_move, st_assign, st_load, st_store, st_fieldAddr, st_field, st_indexAddr, st_index, st_slice, st_build, st_pick, st_nilCheck, st_extract, st_binOp, st_unOp, st_convert, st_len, st_alloc, st_box, st_buildSlice, st_makeSlice, st_makeFunc, st_append,
    qr_some, rr_some, binV, unV, storeV, nilV, pickV, extV, intBin, loadV, mkV, storeW, fieldAddrV, fieldV, partV, idxS, idxA, lenS, sliceW, bnd, aBox, aNew, newSlice, appendV, srcCells, freeIdx, firstDead, AVal.cells, ld3, ld5, ld22, ld27, ld29, ld37, ld43, so3, so27, so37, so43, fa45_0, fa45_1, fa37_1, fa43_0, fa43_1, ix22, ix26, ix29, ix27, ln22, ln26, ln29, sl22, sl26, ap26, ap29, al27, al37, al43, cv53, bd43, bd45, bd37, bs29, bs26, AVal.oneCell, AVal.known,
    aResults, aResult, oneOr, List.set_cons_zero, List.set_cons_succ, List.getD_eq_getElem?_getD, List.getElem?_cons_succ, List.getElem?_cons_zero, List.getElem?_nil, Option.getD_some, List.getElem?_toArray, List.drop, List.take, List.drop_zero, List.take_zero, List.length_cons, List.length_nil,
    List.nil_append, List.cons_append, List.append_nil, List.map, List.all_cons, List.all_nil, List.replicate, Option.map_some, Option.map_none,
    ↓reduceIte, Nat.reduceAdd, Nat.reduceSub, Nat.reduceMul, Nat.reducePow, Nat.reduceLeDiff, Nat.reduceLT, Nat.reduceEqDiff, Nat.zero_add, Nat.add_zero, Nat.mul_one, Nat.zero_mul, Int.reduceLT, Int.reduceLE, Int.reduceToNat, Int.reduceNeg,
    decide_eq_true_eq, decide_true, decide_false, Bool.false_eq_true, Bool.not_true, Bool.not_false, beqTT, beqTF, beqFT, beqFF, beq_self_eq_true, Bool.and_self, and_self, and_true, true_and, not_true_eq_false, not_false_eq_true, Int.toNat_natCast, Int.natCast_nonneg, Int.cast_ofNat_Int, if_true, if_false, ite_true, ite_false, Option.isSome_none, Option.isSome_some, Option.getD_none, false_implies, forall_const, Bool.or_self, Option.map_none, h1, w1, w2, encR_at hr, ha, hbin, hlen, e1, e2, roundTo]
    exact congrArg some (id (by kernel_rfl))
  · by_cases ha7 : a ≥ 7
    · have hbin : binOf a = 0 := by simp only [binOf, ha7, or_true, if_true]
      have e1 := encI_at (hist_get bins (show 0 < 7 by omega))
      have e2 := hfin 0 (by omega)
      simp only [List.take_zero, List.nil_append, List.cons_append, Nat.zero_add, List.drop_zero] at e1 e2
      simp (maxSteps := 1000000) (disch := first | ((with_reducible show List.length _ = _); simp only [List.length_cons, List.length_nil, Nat.reduceAdd]; rfl) | ((with_reducible show quietRegion _ _ _ = true); decide +kernel) | ((with_reducible show aGc _ _ _ _ = _); exact id (by kernel_rfl)) | ((with_reducible show (edgesOk _ _ && pairsOk _ _ _) = true); exact id (by kernel_rfl))) only [aCode_seq, aCode_ops, aCode_cnd, aCode_skip, aCode_exit, aCode_ret, aCode_block, aCode_quiet, aOps_n, aOps_c, aWanted, aEval, ofVal, ofVal1, aPut_some, aPut_none, applyP_nil, applyP_cons,
    st_move, st_assign, st_load, st_store, st_fieldAddr, st_field, st_indexAddr, st_index, st_slice, st_build, st_pick, st_nilCheck, st_extract, st_binOp, st_unOp, st_convert, st_len, st_alloc, st_box, st_buildSlice, st_makeSlice, st_makeFunc, st_append,
    qr_some, rr_some, binV, unV, storeV, nilV, pickV, extV, intBin, loadV, mkV, storeW, fieldAddrV, fieldV, partV, idxS, idxA, lenS, sliceW, bnd, aBox, aNew, newSlice, appendV, srcCells, freeIdx, firstDead, AVal.cells, ld3, ld5, ld22, ld27, ld29, ld37, ld43, so3, so27, so37, so43, fa45_0, fa45_1, fa37_1, fa43_0, fa43_1, ix22, ix26, ix29, ix27, ln22, ln26, ln29, sl22, sl26, ap26, ap29, al27, al37, al43, cv53, bd43, bd45, bd37, bs29, bs26, AVal.oneCell, AVal.known,
    aResults, aResult, oneOr, List.set_cons_zero, List.set_cons_succ, List.getD_eq_getElem?_getD, List.getElem?_cons_succ, List.getElem?_cons_zero, List.getElem?_nil, Option.getD_some, List.getElem?_toArray, List.drop, List.take, List.drop_zero, List.take_zero, List.length_cons, List.length_nil,
    List.nil_append, List.cons_append, List.append_nil, List.map, List.all_cons, List.all_nil, List.replicate, Option.map_some, Option.map_none,
    ↓reduceIte, Nat.reduceAdd, Nat.reduceSub, Nat.reduceMul, Nat.reducePow, Nat.reduceLeDiff, Nat.reduceLT, Nat.reduceEqDiff, Nat.zero_add, Nat.add_zero, Nat.mul_one, Nat.zero_mul, Int.reduceLT, Int.reduceLE, Int.reduceToNat, Int.reduceNeg,
    decide_eq_true_eq, decide_true, decide_false, Bool.false_eq_true, Bool.not_true, Bool.not_false, beqTT, beqTF, beqFT, beqFF, beq_self_eq_true, Bool.and_self, and_self, and_true, true_and, not_true_eq_false, not_false_eq_true, Int.toNat_natCast, Int.natCast_nonneg, Int.cast_ofNat_Int, if_true, if_false, ite_true, ite_false, Option.isSome_none, Option.isSome_some, Option.getD_none, false_implies, forall_const, Bool.or_self, Option.map_none, h1, w1, w2, encR_at hr, ha, ha7, hbin, hlen, e1, e2, roundTo]
      exact congrArg some (id (by kernel_rfl))
    · have hbin : binOf a = a.toNat := by simp [binOf]; omega
      have hk : a.toNat < 7 := by omega
      have e1 := encI_at (hist_get bins hk)
      have e2 := hfin a.toNat hk
      have ha0 : 0 ≤ a := by omega
      have ha7' : a < 7 := by omega
      have hk1 : a.toNat + 1 ≤ 7 := by omega
      simp (maxSteps := 1000000) (disch := first | ((with_reducible show List.length _ = _); simp only [List.length_cons, List.length_nil, Nat.reduceAdd]; rfl) | ((with_reducible show quietRegion _ _ _ = true); decide +kernel) | ((with_reducible show aGc _ _ _ _ = _); exact id (by kernel_rfl)) | ((with_reducible show (edgesOk _ _ && pairsOk _ _ _) = true); exact id (by kernel_rfl))) only [aCode_seq, aCode_ops, aCode_cnd, aCode_skip, aCode_exit, aCode_ret, aCode_block, aCode_quiet, aOps_n, aOps_c, aWanted, aEval, ofVal, ofVal1, aPut_some, aPut_none, applyP_nil, applyP_cons,
    st_move, st_assign, st_load, st_store, st_fieldAddr, st_field, st_indexAddr, st_index, st_slice, st_build, st_pick, st_nilCheck, st_extract, st_binOp, st_unOp, st_convert, st_len, st_alloc, st_box, st_buildSlice, st_makeSlice, st_makeFunc, st_append,
    qr_some, rr_some, binV, unV, storeV, nilV, pickV, extV, intBin, loadV, mkV, storeW, fieldAddrV, fieldV, partV, idxS, idxA, lenS, sliceW, bnd, aBox, aNew, newSlice, appendV, srcCells, freeIdx, firstDead, AVal.cells, ld3, ld5, ld22, ld27, ld29, ld37, ld43, so3, so27, so37, so43, fa45_0, fa45_1, fa37_1, fa43_0, fa43_1, ix22, ix26, ix29, ix27, ln22, ln26, ln29, sl22, sl26, ap26, ap29, al27, al37, al43, cv53, bd43, bd45, bd37, bs29, bs26, AVal.oneCell, AVal.known,
    aResults, aResult, oneOr, List.set_cons_zero, List.set_cons_succ, List.getD_eq_getElem?_getD, List.getElem?_cons_succ, List.getElem?_cons_zero, List.getElem?_nil, Option.getD_some, List.getElem?_toArray, List.drop, List.take, List.drop_zero, List.take_zero, List.length_cons, List.length_nil,
    List.nil_append, List.cons_append, List.append_nil, List.map, List.all_cons, List.all_nil, List.replicate, Option.map_some, Option.map_none,
    ↓reduceIte, Nat.reduceAdd, Nat.reduceSub, Nat.reduceMul, Nat.reducePow, Nat.reduceLeDiff, Nat.reduceLT, Nat.reduceEqDiff, Nat.zero_add, Nat.add_zero, Nat.mul_one, Nat.zero_mul, Int.reduceLT, Int.reduceLE, Int.reduceToNat, Int.reduceNeg,
    decide_eq_true_eq, decide_true, decide_false, Bool.false_eq_true, Bool.not_true, Bool.not_false, beqTT, beqTF, beqFT, beqFF, beq_self_eq_true, Bool.and_self, and_self, and_true, true_and, not_true_eq_false, not_false_eq_true, Int.toNat_natCast, Int.natCast_nonneg, Int.cast_ofNat_Int, if_true, if_false, ite_true, ite_false, Option.isSome_none, Option.isSome_some, Option.getD_none, false_implies, forall_const, Bool.or_self, Option.map_none, h1, w1, w2, encR_at hr, ha, ha7, ha0, ha7', hk1, hbin, hlen, e1, e2, roundTo, Nat.le_refl]
      exact congrArg some (id (by kernel_rfl))

theorem sum_in_loop (call : CallF) {ys : List (List (Int × Int))} (N i : Int) {rs : List (Int × Int)} (hrl : rs.length ≤ 1000) : ∀ (d j n : Nat) (bins : List Nat) (t : List AVal) (h : AHeap), j + d = rs.length → bins.length + d ≤ 1000000 →
    aGc sgi (loopB Try.f8 1) t h = ([.top, .top, .ptr 0 0 7, .ptr 1 0 7, .top, .top, .top, .top, .fs (encY ys) ys.length none, .sc (.int .i64 N), .sc (.int .i64 i), .top, .top, .top, .top, .fs (encR rs) rs.length none, .sc (.int .i64 rs.length), .sc (.int .i64 j), .top, .top, .top, .top, .top, .top, .top, .top, .top, .top, .top, .top, .top, .top, .top, .top, .top, .top, .top, .top, .top, .top, .top, .top],
      [z7, .arr (encI (hist bins)) true]) →
    aCode C0 call sgi (n + d + 21) (.loop (loopB Try.f8 1)) t h = some (.exit 2,
      [.top, .top, .ptr 0 0 7, .ptr 1 0 7, .top, .top, .top, .top, .fs (encY ys) ys.length none, .sc (.int .i64 N), .sc (.int .i64 i), .top, .top, .top, .top, .fs (encR rs) rs.length none, .sc (.int .i64 rs.length), .sc (.int .i64 rs.length), .sc (.bool false), .top, .top, .top, .top, .top, .top, .top, .top, .top, .top, .top, .top, .top, .top, .top, .top, .top, .top, .top, .top, .top, .top, .top],
      [z7, .arr (encI (hist (bins ++ (rs.drop j).map fun r => binOf r.1))) true])
  | 0, j, n, bins, t, h, hj, hb, hg => by
    have : rs.drop j = [] := List.drop_eq_nil_of_le (by omega)
    rw [this, List.map_nil, List.append_nil]
    have e : j = rs.length := by omega
    subst e
    exact loop_exit hg (sum_in_exit call (n + 10) _ _ _ _ _ _)
  | d + 1, j, n, bins, t, h, hj, hb, hg => by
    have hlt : j < rs.length := by omega
    obtain ⟨t2, h2, hg2, he⟩ := loop_round_to hg (sum_in_step call (n + d + 1) N i (List.getElem?_eq_getElem hlt) hrl bins (by omega))
    rw [show n + (d + 1) + 21 = n + d + 1 + 20 + 1 by omega, he, show n + d + 1 + 20 = n + d + 21 by omega,
      sum_in_loop call N i hrl d (j + 1) n (bins ++ [binOf rs[j].1]) t2 h2 (by omega) (by simp; omega) hg2, List.drop_eq_getElem_cons hlt]
    simp only [List.map_cons, List.append_assoc, List.cons_append, List.nil_append]

theorem sum_exit (call : CallF) (n : Nat) (yv : AVal) (N : Int) (h : AHeap) :
    aCode C0 call sgi (n + 10) (loopB Try.f8 0) [.top, .top, .ptr 0 0 7, .ptr 1 0 7, .top, .top, .top, .top, yv, .sc (.int .i64 N), .sc (.int .i64 N), .top, .top, .top, .top, .top, .top, .top, .top, .top, .top, .top, .top, .top, .top, .top, .top, .top, .top, .top, .top, .top, .top, .top, .top, .top, .top, .top, .top, .top, .top, .top] h =
      some (.exit 0, [.top, .top, .ptr 0 0 7, .ptr 1 0 7, .top, .top, .top, .top, yv, .sc (.int .i64 N), .sc (.int .i64 N), .sc (.bool false), .top, .top, .top, .top, .top, .top, .top, .top, .top, .top, .top, .top, .top, .top, .top, .top, .top, .top, .top, .top, .top, .top, .top, .top, .top, .top, .top, .top, .top, .top], h) := by
  simp only [Try.f8, loopB, loopsOf, Option.getD_some, List.nil_append, List.append_nil, List.cons_append, List.getElem?_cons_zero, List.getElem?_cons_succ, List.getElem?_nil]
  simp (maxSteps := 1000000) (disch := first | ((with_reducible show List.length _ = _); simp only [List.length_cons, List.length_nil, Nat.reduceAdd]; rfl) | ((with_reducible show quietRegion _ _ _ = true); decide +kernel) | ((with_reducible show aGc _ _ _ _ = _); exact id (by kernel_rfl)) | ((with_reducible show (edgesOk _ _ && pairsOk _ _ _) = true); exact id (by kernel_rfl))) only [aCode_seq, aCode_ops, aCode_cnd, aCode_skip, aCode_exit, aCode_ret, aCode_block, aCode_quiet, aOps_n, aOps_c, aWanted, aEval, ofVal, ofVal1, aPut_some, aPut_none, applyP_nil, applyP_cons,
    st_move, st_assign, st_load, st_store, st_fieldAddr, st_field, st_indexAddr, st_index, st_slice, st_build, st_pick, st_nilCheck, st_extract, st_binOp, st_unOp, st_convert, st_len, st_alloc, st_box, st_buildSlice, st_makeSlice, st_makeFunc, st_append,
    qr_some, rr_some, binV, unV, storeV, nilV, pickV, extV, intBin, loadV, mkV, storeW, fieldAddrV, fieldV, partV, idxS, idxA, lenS, sliceW, bnd, aBox, aNew, newSlice, appendV, srcCells, freeIdx, firstDead, AVal.cells, ld3, ld5, ld22, ld27, ld29, ld37, ld43, so3, so27, so37, so43, fa45_0, fa45_1, fa37_1, fa43_0, fa43_1, ix22, ix26, ix29, ix27, ln22, ln26, ln29, sl22, sl26, ap26, ap29, al27, al37, al43, cv53, bd43, bd45, bd37, bs29, bs26, AVal.oneCell, AVal.known,
    aResults, aResult, oneOr, List.set_cons_zero, List.set_cons_succ, List.getD_eq_getElem?_getD, List.getElem?_cons_succ, List.getElem?_cons_zero, List.getElem?_nil, Option.getD_some, List.getElem?_toArray, List.drop, List.take, List.drop_zero, List.take_zero, List.length_cons, List.length_nil,
    List.nil_append, List.cons_append, List.append_nil, List.map, List.all_cons, List.all_nil, List.replicate, Option.map_some, Option.map_none,
    ↓reduceIte, Nat.reduceAdd, Nat.reduceSub, Nat.reduceMul, Nat.reducePow, Nat.reduceLeDiff, Nat.reduceLT, Nat.reduceEqDiff, Nat.zero_add, Nat.add_zero, Nat.mul_one, Nat.zero_mul, Int.reduceLT, Int.reduceLE, Int.reduceToNat, Int.reduceNeg,
    decide_eq_true_eq, decide_true, decide_false, Bool.false_eq_true, Bool.not_true, Bool.not_false, beqTT, beqTF, beqFT, beqFF, beq_self_eq_true, Bool.and_self, and_self, and_true, true_and, not_true_eq_false, not_false_eq_true, Int.toNat_natCast, Int.natCast_nonneg, Int.cast_ofNat_Int, if_true, if_false, ite_true, ite_false, Option.isSome_none, Option.isSome_some, Option.getD_none, false_implies, forall_const, Bool.or_self, Option.map_none, Int.lt_irrefl]

theorem sum_step (call : CallF) (n : Nat) {ys : List (List (Int × Int))} {i : Nat} {rs : List (Int × Int)} (hr : ys[i]? = some rs) (hyl : ys.length ≤ 1000) (hrl : rs.length ≤ 100) (bins : List Nat) (hb : bins.length ≤ 900000) :
    roundTo sgi (loopB Try.f8 0) (aCode C0 call sgi (n + 150) (loopB Try.f8 0) [.top, .top, .ptr 0 0 7, .ptr 1 0 7, .top, .top, .top, .top, .fs (encY ys) ys.length none, .sc (.int .i64 ys.length), .sc (.int .i64 i), .top, .top, .top, .top, .top, .top, .top, .top, .top, .top, .top, .top, .top, .top, .top, .top, .top, .top, .top, .top, .top, .top, .top, .top, .top, .top, .top, .top, .top, .top, .top] [z7, .arr (encI (hist bins)) true]) =
      some ([.top, .top, .ptr 0 0 7, .ptr 1 0 7, .top, .top, .top, .top, .fs (encY ys) ys.length none, .sc (.int .i64 ys.length), .sc (.int .i64 (i + 1 : Nat)), .top, .top, .top, .top, .top, .top, .top, .top, .top, .top, .top, .top, .top, .top, .top, .top, .top, .top, .top, .top, .top, .top, .top, .top, .top, .top, .top, .top, .top, .top, .top], [z7, .arr (encI (hist (bins ++ rs.map fun r => binOf r.1))) true]) := by
  have hi : i < ys.length := (List.getElem?_eq_some_iff.1 hr).1
  have h1 : (i : Int) < ys.length := by omega
  have w1 : IntKind.i64.wrap ((i : Int) + 1) = ((i + 1 : Nat) : Int) := by rw [wrap_i64 (by omega) (by omega)]; omega
  have hloop : ∀ (x : Nat) (t : List AVal) (h : AHeap), aGc sgi (loopB Try.f8 1) t h = ([.top, .top, .ptr 0 0 7, .ptr 1 0 7, .top, .top, .top, .top, .fs (encY ys) ys.length none, .sc (.int .i64 ys.length), .sc (.int .i64 i), .top, .top, .top, .top, .fs (encR rs) rs.length none, .sc (.int .i64 rs.length), .sc (.int .i64 (0 : Nat)), .top, .top, .top, .top, .top, .top, .top, .top, .top, .top, .top, .top, .top, .top, .top, .top, .top, .top, .top, .top, .top, .top, .top, .top],
      [z7, .arr (encI (hist bins)) true]) → aCode C0 call sgi (x + 122) (.loop (loopB Try.f8 1)) t h = some (.exit 2,
      [.top, .top, .ptr 0 0 7, .ptr 1 0 7, .top, .top, .top, .top, .fs (encY ys) ys.length none, .sc (.int .i64 ys.length), .sc (.int .i64 i), .top, .top, .top, .top, .fs (encR rs) rs.length none, .sc (.int .i64 rs.length), .sc (.int .i64 rs.length), .sc (.bool false), .top, .top, .top, .top, .top, .top, .top, .top, .top, .top, .top, .top, .top, .top, .top, .top, .top, .top, .top, .top, .top, .top, .top],
      [z7, .arr (encI (hist (bins ++ rs.map fun r => binOf r.1))) true]) := fun x t h hg => by
    have := sum_in_loop call (ys := ys) ys.length i (by omega) rs.length 0 0 bins t h (by omega) (by omega) hg
    rw [List.drop_zero] at this
    exact aCode_mono (CallLe.refl _) (by omega) this
  simp only [Try.f8, loopB, loopsOf, Option.getD_some, List.nil_append, List.append_nil, List.cons_append, List.getElem?_cons_zero, List.getElem?_cons_succ, List.getElem?_nil, z7] at hloop
  simp only [Try.f8, loopB, loopsOf, Option.getD_some, List.nil_append, List.append_nil, List.cons_append, List.getElem?_cons_zero, List.getElem?_cons_succ, List.getElem?_nil, z7]
  simp (maxSteps := 1000000) (disch := first | ((with_reducible show List.length _ = _); simp only [List.length_cons, List.length_nil, Nat.reduceAdd]; rfl) | ((with_reducible show quietRegion _ _ _ = true); decide +kernel) | ((with_reducible show aGc _ _ _ _ = _); exact id (by kernel_rfl)) | ((with_reducible show (edgesOk _ _ && pairsOk _ _ _) = true); exact id (by kernel_rfl))) only [aCode_seq, aCode_ops, aCode_cnd, aCode_skip, aCode_exit, aCode_ret, aCode_block, aCode_quiet, aOps_n, aOps_c, aWanted, aEval, ofVal, ofVal1, aPut_some, aPut_none, applyP_nil, applyP_cons,
    st_move, st_assign, st_load, st_store, st_fieldAddr, st_field, st_indexAddr, st_index, st_slice, st_build, st_pick, st_nilCheck, st_extract, st_binOp, st_unOp, st_convert, st_len, st_alloc, st_box, st_buildSlice, st_makeSlice, st_makeFunc, st_append,
    qr_some, rr_some, binV, unV, storeV, nilV, pickV, extV, intBin, loadV, mkV, storeW, fieldAddrV, fieldV, partV, idxS, idxA, lenS, sliceW, bnd, aBox, aNew, newSlice, appendV, srcCells, freeIdx, firstDead, AVal.cells, ld3, ld5, ld22, ld27, ld29, ld37, ld43, so3, so27, so37, so43, fa45_0, fa45_1, fa37_1, fa43_0, fa43_1, ix22, ix26, ix29, ix27, ln22, ln26, ln29, sl22, sl26, ap26, ap29, al27, al37, al43, cv53, bd43, bd45, bd37, bs29, bs26, AVal.oneCell, AVal.known,
    aResults, aResult, oneOr, List.set_cons_zero, List.set_cons_succ, List.getD_eq_getElem?_getD, List.getElem?_cons_succ, List.getElem?_cons_zero, List.getElem?_nil, Option.getD_some, List.getElem?_toArray, List.drop, List.take, List.drop_zero, List.take_zero, List.length_cons, List.length_nil,
    List.nil_append, List.cons_append, List.append_nil, List.map, List.all_cons, List.all_nil, List.replicate, Option.map_some, Option.map_none,
    ↓reduceIte, Nat.reduceAdd, Nat.reduceSub, Nat.reduceMul, Nat.reducePow, Nat.reduceLeDiff, Nat.reduceLT, Nat.reduceEqDiff, Nat.zero_add, Nat.add_zero, Nat.mul_one, Nat.zero_mul, Int.reduceLT, Int.reduceLE, Int.reduceToNat, Int.reduceNeg,
    decide_eq_true_eq, decide_true, decide_false, Bool.false_eq_true, Bool.not_true, Bool.not_false, beqTT, beqTF, beqFT, beqFF, beq_self_eq_true, Bool.and_self, and_self, and_true, true_and, not_true_eq_false, not_false_eq_true, Int.toNat_natCast, Int.natCast_nonneg, Int.cast_ofNat_Int, if_true, if_false, ite_true, ite_false, Option.isSome_none, Option.isSome_some, Option.getD_none, false_implies, forall_const, Bool.or_self, Option.map_none, h1, w1, encY_at hr, encY1, hloop, roundTo]
  exact congrArg some (id (by kernel_rfl))

def binsOf (ys : List (List (Int × Int))) : List Nat := ys.flatMap fun r => r.map fun x => binOf x.1

theorem sum_loop (call : CallF) {ys : List (List (Int × Int))} (hyl : ys.length ≤ 1000) (hrl : ∀ r, r ∈ ys → r.length ≤ 100) : ∀ (d i n : Nat) (bins : List Nat) (t : List AVal) (h : AHeap), i + d = ys.length → bins.length + d * 100 ≤ 900000 →
    aGc sgi (loopB Try.f8 0) t h = ([.top, .top, .ptr 0 0 7, .ptr 1 0 7, .top, .top, .top, .top, .fs (encY ys) ys.length none, .sc (.int .i64 ys.length), .sc (.int .i64 i), .top, .top, .top, .top, .top, .top, .top, .top, .top, .top, .top, .top, .top, .top, .top, .top, .top, .top, .top, .top, .top, .top, .top, .top, .top, .top, .top, .top, .top, .top, .top], [z7, .arr (encI (hist bins)) true]) →
    aCode C0 call sgi (n + d + 151) (.loop (loopB Try.f8 0)) t h = some (.exit 0,
      [.top, .top, .ptr 0 0 7, .ptr 1 0 7, .top, .top, .top, .top, .fs (encY ys) ys.length none, .sc (.int .i64 ys.length), .sc (.int .i64 ys.length), .sc (.bool false), .top, .top, .top, .top, .top, .top, .top, .top, .top, .top, .top, .top, .top, .top, .top, .top, .top, .top, .top, .top, .top, .top, .top, .top, .top, .top, .top, .top, .top, .top],
      [z7, .arr (encI (hist (bins ++ binsOf (ys.drop i)))) true])
  | 0, i, n, bins, t, h, hi, hb, hg => by
    have : ys.drop i = [] := List.drop_eq_nil_of_le (by omega)
    rw [this]
    simp only [binsOf, List.flatMap_nil, List.append_nil]
    have e : i = ys.length := by omega
    subst e
    exact loop_exit hg (sum_exit call (n + 140) _ _ _)
  | d + 1, i, n, bins, t, h, hi, hb, hg => by
    have hlt : i < ys.length := by omega
    have hrl1 := hrl ys[i] (List.getElem_mem hlt)
    obtain ⟨t2, h2, hg2, he⟩ := loop_round_to hg (sum_step call (n + d + 1) (List.getElem?_eq_getElem hlt) hyl hrl1 bins (by omega))
    rw [show n + (d + 1) + 151 = n + d + 1 + 150 + 1 by omega, he, show n + d + 1 + 150 = n + d + 151 by omega,
      sum_loop call hyl hrl d (i + 1) n (bins ++ ys[i].map fun r => binOf r.1) t2 h2 (by omega) (by simp; omega) hg2, List.drop_eq_getElem_cons hlt]
    simp only [binsOf, List.flatMap_cons, List.append_assoc]

theorem fn8 : C0.fn 8 = some { ntmps := 42, results := [.cell 2 27], body := (Try.f8.body).getD .skip, live := liveTab 8 } := by kernel_rfl

theorem encI_one : ∀ l : List Int, (encI l).all AVal.oneCell = true
  | [] => rfl
  | a :: l => by simpa [encI, AVal.oneCell] using encI_one l

theorem sum_core (m : Nat) (h : AHeap) {ys : List (List (Int × Int))} (hyl : ys.length ≤ 100) (hrl : ∀ r, r ∈ ys → r.length ≤ 100) :
    aCore (aCall C0 (m + 400)) 8 [.fs (encY ys) ys.length none] h = some (.ret (.agg (encI (hist (binsOf ys)))), []) := by
  rw [aCore_nil (args2 := [.fs (encY ys) ys.length none]) rfl (by simp [mapVL, mapV, relocIn])]
  have hloop : ∀ (x : Nat) (t : List AVal) (h : AHeap), aGc sgi (loopB Try.f8 0) t h = ([.top, .top, .ptr 0 0 7, .ptr 1 0 7, .top, .top, .top, .top, .fs (encY ys) ys.length none, .sc (.int .i64 ys.length), .sc (.int .i64 (0 : Nat)), .top, .top, .top, .top, .top, .top, .top, .top, .top, .top, .top, .top, .top, .top, .top, .top, .top, .top, .top, .top, .top, .top, .top, .top, .top, .top, .top, .top, .top, .top, .top],
      [z7, .arr (encI (hist [])) true]) → aCode C0 (aCall C0 (m + 399)) sgi (x + 260) (.loop (loopB Try.f8 0)) t h = some (.exit 0,
      [.top, .top, .ptr 0 0 7, .ptr 1 0 7, .top, .top, .top, .top, .fs (encY ys) ys.length none, .sc (.int .i64 ys.length), .sc (.int .i64 ys.length), .sc (.bool false), .top, .top, .top, .top, .top, .top, .top, .top, .top, .top, .top, .top, .top, .top, .top, .top, .top, .top, .top, .top, .top, .top, .top, .top, .top, .top, .top, .top, .top, .top],
      [z7, .arr (encI (hist (binsOf ys))) true]) := fun x t h hg => by
    have := sum_loop (aCall C0 (m + 399)) (by omega) hrl ys.length 0 0 [] t h (by omega) (by simp; omega) hg
    rw [List.drop_zero, List.nil_append] at this
    exact aCode_mono (CallLe.refl _) (by omega) this
  have hlen : (encI (hist (binsOf ys))).length = 7 := by simp [encI, hist_length]
  have htake : List.take 7 (encI (hist (binsOf ys))) = encI (hist (binsOf ys)) := List.take_of_length_le (by omega)
  unfold aCall
  simp only [fn8]
  simp only [Try.f8, loopB, loopsOf, Option.getD_some, List.nil_append, List.append_nil, List.cons_append, List.getElem?_cons_zero, List.getElem?_cons_succ, List.getElem?_nil, z7, sgi] at hloop
  simp only [Try.f8, Option.getD_some, List.length_cons, List.length_nil, List.cons_append, List.nil_append, Nat.reduceAdd, Nat.reduceSub, List.replicate]
  simp (maxSteps := 1000000) (disch := first | ((with_reducible show List.length _ = _); simp only [List.length_cons, List.length_nil, Nat.reduceAdd]; rfl) | ((with_reducible show quietRegion _ _ _ = true); decide +kernel) | ((with_reducible show aGc _ _ _ _ = _); exact id (by kernel_rfl)) | ((with_reducible show (edgesOk _ _ && pairsOk _ _ _) = true); exact id (by kernel_rfl))) only [aCode_seq, aCode_ops, aCode_cnd, aCode_skip, aCode_exit, aCode_ret, aCode_block, aCode_quiet, aOps_n, aOps_c, aWanted, aEval, ofVal, ofVal1, aPut_some, aPut_none, applyP_nil, applyP_cons,
    st_move, st_assign, st_load, st_store, st_fieldAddr, st_field, st_indexAddr, st_index, st_slice, st_build, st_pick, st_nilCheck, st_extract, st_binOp, st_unOp, st_convert, st_len, st_alloc, st_box, st_buildSlice, st_makeSlice, st_makeFunc, st_append,
    qr_some, rr_some, binV, unV, storeV, nilV, pickV, extV, intBin, loadV, mkV, storeW, fieldAddrV, fieldV, partV, idxS, idxA, lenS, sliceW, bnd, aBox, aNew, newSlice, appendV, srcCells, freeIdx, firstDead, AVal.cells, ld3, ld5, ld22, ld27, ld29, ld37, ld43, so3, so27, so37, so43, fa45_0, fa45_1, fa37_1, fa43_0, fa43_1, ix22, ix26, ix29, ix27, ln22, ln26, ln29, sl22, sl26, ap26, ap29, al27, al37, al43, cv53, bd43, bd45, bd37, bs29, bs26, AVal.oneCell, AVal.known,
    aResults, aResult, oneOr, List.set_cons_zero, List.set_cons_succ, List.getD_eq_getElem?_getD, List.getElem?_cons_succ, List.getElem?_cons_zero, List.getElem?_nil, Option.getD_some, List.getElem?_toArray, List.drop, List.take, List.drop_zero, List.take_zero, List.length_cons, List.length_nil,
    List.nil_append, List.cons_append, List.append_nil, List.map, List.all_cons, List.all_nil, List.replicate, Option.map_some, Option.map_none,
    ↓reduceIte, Nat.reduceAdd, Nat.reduceSub, Nat.reduceMul, Nat.reducePow, Nat.reduceLeDiff, Nat.reduceLT, Nat.reduceEqDiff, Nat.zero_add, Nat.add_zero, Nat.mul_one, Nat.zero_mul, Int.reduceLT, Int.reduceLE, Int.reduceToNat, Int.reduceNeg,
    decide_eq_true_eq, decide_true, decide_false, Bool.false_eq_true, Bool.not_true, Bool.not_false, beqTT, beqTF, beqFT, beqFF, beq_self_eq_true, Bool.and_self, and_self, and_true, true_and, not_true_eq_false, not_false_eq_true, Int.toNat_natCast, Int.natCast_nonneg, Int.cast_ofNat_Int, if_true, if_false, ite_true, ite_false, Option.isSome_none, Option.isSome_some, Option.getD_none, false_implies, forall_const, Bool.or_self, Option.map_none, hloop, hlen, htake, encI_one, Nat.le_refl]
  refine aBack_nil ?_
  simp only [mapEnd, fix_agg (encI_fix _) _ (show (relocOut true [] h.length false _).cn = true from rfl)]

end Go.Proofs.Ytjfdjendaagccaa

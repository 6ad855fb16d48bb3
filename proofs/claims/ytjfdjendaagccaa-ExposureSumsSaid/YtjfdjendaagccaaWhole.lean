/-
  The statement's function as a whole.
-/
import Derived.Test.YtjfdjendaagccaaStep
namespace Go.Proofs.Ytjfdjendaagccaa
open Go Go.Proofs Go.Proofs.Ae
set_option linter.unusedSimpArgs false
set_option linter.unusedVariables false
set_option linter.unnecessarySimpa false

theorem hist_perm {a b : List (List (Int × Int))} (h : a.Perm b) : hist (binsOf a) = hist (binsOf b) := by
  have hp : (binsOf a).Perm (binsOf b) := List.Perm.flatMap_right _ h
  simp only [hist]
  apply List.map_congr_left
  intro k _
  rw [hp.count_eq]

theorem ins_perm (tn : List (List (Int × Int))) (q : Nat) (rs : List (Int × Int)) : (ins tn q rs).Perm (tn ++ [rs]) := by
  have h1 : (ins tn q rs).Perm (rs :: (tn.take q ++ tn.drop q)) := by
    simp only [ins, List.append_assoc, List.cons_append, List.nil_append]
    exact List.perm_middle
  rw [List.take_append_drop] at h1
  exact h1.trans (List.perm_append_singleton rs tn).symm

structure Good1 (l tn : List (List (Int × Int))) (a : Nat) : Prop where
  len : l.length = a
  perm : tn.Perm l
  small : ∀ r, r ∈ l → r.length ≤ 4
  one : 1 ≤ a
  most : a ≤ 100

theorem Good1.tlen {l tn : List (List (Int × Int))} {a : Nat} (g : Good1 l tn a) : tn.length = a := by rw [g.perm.length_eq, g.len]
theorem Good1.tsmall {l tn : List (List (Int × Int))} {a : Nat} (g : Good1 l tn a) : ∀ r, r ∈ tn → r.length ≤ 4 := fun r hr => g.small r (g.perm.mem_iff.1 hr)
theorem bins_le : ∀ {l : List (List (Int × Int))}, (∀ r, r ∈ l → r.length ≤ 4) → (binsOf l).length ≤ l.length * 4
  | [], _ => by simp [binsOf]
  | r :: l, h => by
    have h1 := h r (by simp)
    have h2 := bins_le (l := l) fun x hx => h x (by simp [hx])
    simp only [binsOf, List.flatMap_cons, List.length_append, List.length_map, List.length_cons] at h2 ⊢
    omega
theorem Good1.bins {l tn : List (List (Int × Int))} {a : Nat} (g : Good1 l tn a) : (binsOf l).length ≤ 100000 := by
  have := bins_le g.small
  have := g.len
  have := g.most
  omega

theorem main_loop (m : Nat) {L : List UInt8} (hl : L.length ≤ 1000) : ∀ (k p : Nat) (l tn : List (List (Int × Int))) (w1 w2 : Bool) (a : Nat), a + k ≤ 90 → Good1 l tn a →
    ∃ (p' : Nat) (l' tn' : List (List (Int × Int))) (w1' w2' : Bool) (a' : Nat), Good1 l' tn' a' ∧ ∀ (n : Nat) (t : List AVal) (h : AHeap),
      aGc mgi (loopB Try.f3 0) t h = ([.top, .top, .top, .ptr 0 0 2, .ms 1 0 a 7 a false, .ms 2 0 a 7 a false, .ptr 3 0 7, .sc (.int .i64 k), .top, .top, .top, .top, .top, .top, .top, .top, .top, .top, .top, .top, .top, .top, .top, .top, .top, .top, .top, .top, .top, .top, .top, .top, .top, .top, .top, .top, .top, .top, .top, .top, .top, .top, .top, .top, .top, .top, .top, .top, .top, .top, .top, .top, .top, .top, .top, .top, .top, .top, .top, .top, .top, .top, .top, .top, .top, .top, .top, .top, .top, .top, .top, .top, .top, .top, .top, .top, .top, .top, .top, .top, .top],
        [codesO L p, .arr (encY l) w1, .arr (encY tn) w2, .arr (encI (hist (binsOf l))) true]) →
      aCode C0 (aCall C0 (m + 400)) mgi (n + k + 101) (.loop (loopB Try.f3 0)) t h = some (.exit 0,
        [.top, .top, .top, .ptr 0 0 2, .ms 1 0 a' 7 a' false, .ms 2 0 a' 7 a' false, .ptr 3 0 7, .sc (.int .i64 (0 : Nat)), .top, .top, .top, .top, .top, .top, .top, .top, .top, .top, .top, .sc (.int .i64 (0 : Nat)), .sc (.bool false), .top, .top, .top, .top, .top, .top, .top, .top, .top, .top, .top, .top, .top, .top, .top, .top, .top, .top, .top, .top, .top, .top, .top, .top, .top, .top, .top, .top, .top, .top, .top, .top, .top, .top, .top, .top, .top, .top, .top, .top, .top, .top, .top, .top, .top, .top, .top, .top, .top, .top, .top, .top, .top, .top, .top, .top, .top, .top, .top, .top],
        [codesO L p', .arr (encY l') w1', .arr (encY tn') w2', .arr (encI (hist (binsOf l'))) true])
  | 0, p, l, tn, w1, w2, a, hak, g => ⟨p, l, tn, w1, w2, a, g, fun n t h hg => loop_exit hg (main_exit _ (n + 90) _ _ _ _)⟩
  | k + 1, p, l, tn, w1, w2, a, hak, g => by
    have ho := g.one
    have hv := nextV_range L (reasonsF L p).2 (n := (a : Int) + 1) (by omega)
    have g' : Good1 (l ++ [(reasonsF L p).1]) (ins tn (nextV L (reasonsF L p).2 ((a : Int) + 1)).toNat (reasonsF L p).1) (a + 1) := by
      refine ⟨by simp [g.len], (ins_perm _ _ _).trans (g.perm.append_right _), fun r hr => ?_, by omega, by omega⟩
      rcases List.mem_append.1 hr with hr | hr
      · exact g.small r hr
      · simp only [List.mem_singleton] at hr
        subst hr
        exact reasonsF_length L p
    obtain ⟨p', l', tn', v1, v2, a', gg, hrest⟩ := main_loop m hl k (nextK L (reasonsF L p).2 ((a : Int) + 1)) _ _ false false (a + 1) (by omega) g'
    refine ⟨p', l', tn', v1, v2, a', gg, fun n t h hg => ?_⟩
    obtain ⟨t2, h2, hg2, he⟩ := loop_round_to hg (main_step m (n + k + 1) hl p k (by omega) l tn w1 w2 a g.len g.tlen g.one (by omega) g.bins (nextV L (reasonsF L p).2 ((a : Int) + 1)).toNat (by omega) (by omega))
    rw [show n + (k + 1) + 101 = n + k + 1 + 100 + 1 by omega, he, show n + k + 1 + 100 = n + k + 101 by omega]
    exact hrest n t2 h2 hg2

theorem main_many (m : Nat) {L : List UInt8} (hl : L.length ≤ 1000) (p k : Nat) (hk : k ≤ 20) :
    ∃ (p' : Nat) (l' tn' : List (List (Int × Int))) (w1' w2' : Bool) (a' : Nat), Good1 l' tn' a' ∧ ∀ (x : Nat) (t : List AVal) (h : AHeap),
      aGc mgi (loopB Try.f3 0) t h = ([.top, .top, .top, .ptr 0 0 2, .sc (.slice none 0 0), .sc (.slice none 0 0), .ptr 1 0 7, .sc (.int .i64 (k + 1 : Nat)), .top, .top, .top, .top, .top, .top, .top, .top, .top, .top, .top, .top, .top, .top, .top, .top, .top, .top, .top, .top, .top, .top, .top, .top, .top, .top, .top, .top, .top, .top, .top, .top, .top, .top, .top, .top, .top, .top, .top, .top, .top, .top, .top, .top, .top, .top, .top, .top, .top, .top, .top, .top, .top, .top, .top, .top, .top, .top, .top, .top, .top, .top, .top, .top, .top, .top, .top, .top, .top, .top, .top, .top, .top], [codesO L p, .arr (encI (hist [])) true]) →
      aCode C0 (aCall C0 (m + 400)) mgi (x + 200) (.loop (loopB Try.f3 0)) t h = some (.exit 0,
        [.top, .top, .top, .ptr 0 0 2, .ms 1 0 a' 7 a' false, .ms 2 0 a' 7 a' false, .ptr 3 0 7, .sc (.int .i64 (0 : Nat)), .top, .top, .top, .top, .top, .top, .top, .top, .top, .top, .top, .sc (.int .i64 (0 : Nat)), .sc (.bool false), .top, .top, .top, .top, .top, .top, .top, .top, .top, .top, .top, .top, .top, .top, .top, .top, .top, .top, .top, .top, .top, .top, .top, .top, .top, .top, .top, .top, .top, .top, .top, .top, .top, .top, .top, .top, .top, .top, .top, .top, .top, .top, .top, .top, .top, .top, .top, .top, .top, .top, .top, .top, .top, .top, .top, .top, .top, .top, .top, .top],
        [codesO L p', .arr (encY l') w1', .arr (encY tn') w2', .arr (encI (hist (binsOf l'))) true]) := by
  have g1 : Good1 [(reasonsF L p).1] [(reasonsF L p).1] 1 := ⟨rfl, .refl _, fun r hr => by simp only [List.mem_singleton] at hr; subst hr; exact reasonsF_length L p, Nat.le_refl _, by omega⟩
  obtain ⟨p', l', tn', v1, v2, a', gg, hrest⟩ := main_loop m hl k (nextK L (reasonsF L p).2 1) _ _ true true 1 (by omega) g1
  refine ⟨p', l', tn', v1, v2, a', gg, fun x t h hg => ?_⟩
  obtain ⟨t2, h2, hg2, he⟩ := loop_round_to hg (main_first m 30 hl p k (by omega))
  refine aCode_mono (CallLe.refl _) (n := 30 + 100 + 1) (by omega) ?_
  rw [he]
  exact aCode_mono (CallLe.refl _) (by omega) (hrest 0 t2 h2 hg2)

theorem main_none (m : Nat) {L : List UInt8} (p : Nat) (x : Nat) (t : List AVal) (h : AHeap)
    (hg : aGc mgi (loopB Try.f3 0) t h = ([.top, .top, .top, .ptr 0 0 2, .sc (.slice none 0 0), .sc (.slice none 0 0), .ptr 1 0 7, .sc (.int .i64 (0 : Nat)), .top, .top, .top, .top, .top, .top, .top, .top, .top, .top, .top, .top, .top, .top, .top, .top, .top, .top, .top, .top, .top, .top, .top, .top, .top, .top, .top, .top, .top, .top, .top, .top, .top, .top, .top, .top, .top, .top, .top, .top, .top, .top, .top, .top, .top, .top, .top, .top, .top, .top, .top, .top, .top, .top, .top, .top, .top, .top, .top, .top, .top, .top, .top, .top, .top, .top, .top, .top, .top, .top, .top, .top, .top], [codesO L p, .arr (encI (hist [])) true])) :
    aCode C0 (aCall C0 (m + 400)) mgi (x + 200) (.loop (loopB Try.f3 0)) t h = some (.exit 0,
        [.top, .top, .top, .ptr 0 0 2, .sc (.slice none 0 0), .sc (.slice none 0 0), .ptr 1 0 7, .sc (.int .i64 (0 : Nat)), .top, .top, .top, .top, .top, .top, .top, .top, .top, .top, .top, .sc (.int .i64 (0 : Nat)), .sc (.bool false), .top, .top, .top, .top, .top, .top, .top, .top, .top, .top, .top, .top, .top, .top, .top, .top, .top, .top, .top, .top, .top, .top, .top, .top, .top, .top, .top, .top, .top, .top, .top, .top, .top, .top, .top, .top, .top, .top, .top, .top, .top, .top, .top, .top, .top, .top, .top, .top, .top, .top, .top, .top, .top, .top, .top, .top, .top, .top, .top, .top],
        [codesO L p, .arr (encI (hist [])) true]) := loop_exit hg (main_exit _ (x + 189) _ _ _ _)

theorem awake_inv (m : Nat) (h : AHeap) : aInvoke C0 (aCall C0 (m + 400)) 4 [] h = some (.ret (.sc (.bool true)), []) := by
  rw [aInvoke_plain (by simp)]
  exact awake_core m h

theorem new_inv (m : Nat) (L : List UInt8) : aInvoke C0 (aCall C0 (m + 20)) 5 [.fs (encB L) L.length none, .sc (.int .i64 300)] [] = some (.ret (.ptr 0 0 2), [(0, codesO (L.take 300) 0)]) := by
  rw [aInvoke_plain (by simp [locs])]
  exact new_core m [] L 300

theorem sum_drawn (m : Nat) {ys : List (List (Int × Int))} {a : Nat} (hya : ys.length = a) (ha : a ≤ 100) (hs : ∀ r, r ∈ ys → r.length ≤ 4) {h : AHeap} {l : Nat} {w : Bool} (ho : h[l]? = some (.arr (encY ys) w)) :
    aCore (callP C0 (aCall C0 (m + 400))) 8 [.ms l 0 a 7 a false] h = some (.ret (.agg (encI (hist (binsOf ys)))), [(l, .arr (encY ys) false)]) := by
  subst hya
  exact aCoreP_ms byRef8 ho (encY_length _) (encY_fix _) (encY_locs _) (fix_agg (encI_fix _)) fun h' => sum_core m h' ha fun r hr => by have := hs r hr; omega

theorem sum_drawn_nil (m : Nat) (h : AHeap) : aCore (callP C0 (aCall C0 (m + 400))) 8 [.sc (.slice none 0 0)] h = some (.ret (.agg (encI (hist []))), []) :=
  aCoreP_nil (args2 := [.fs [] 0 none]) rfl rfl rfl (fix_agg (encI_fix _)) fun h' => sum_core m h' (ys := []) (by simp) (by simp)

theorem fn3 : C0.fn 3 = some { ntmps := 81, results := [.tmp 2], body := (Try.f3.body).getD .skip, live := liveTab 3 } := by kernel_rfl
theorem fn4 : ∃ i, C0.fn 4 = some i := ⟨_, rfl⟩

open Classical in
noncomputable def eq27 (u v : AVal) : Option AVal := if ∃ l : List Int, l.length = 7 ∧ u = .agg (encI l) ∧ v = .agg (encI l) then some (.sc (.bool true)) else none

theorem eq27_hist (b : List Nat) : eq27 (.agg (encI (hist b))) (.agg (encI (hist b))) = some (.sc (.bool true)) := if_pos ⟨hist b, hist_length b, rfl, rfl⟩

theorem st27 {call : CallF} {d : Bool} {h : AHeap} {s : Option Nat} {t : List AVal} {dst : Option Tmp} {tt yt : TypeId} {ps : String} {af : Array Edge} {g : Option (Nat × Bool)} {x y : Operand} :
    aStep C0 call d h s t ⟨dst, .binOp .eql 27 x y yt, tt, ps, af, g⟩ = qr (eq27 (aEval t x) (aEval t y)) (aStepX C0 call d h s t ⟨dst, .binOp .eql 27 x y yt, tt, ps, af, g⟩) :=
  step_ofq fun v hv => by
    unfold eq27 at hv
    split at hv
    · rename_i hl
      obtain ⟨l, h1, h2, h3⟩ := hl
      simp only [Option.some.injEq] at hv
      subst hv
      exact st_eq27 h1 h2 h3
    · simp at hv

theorem st_call4 {call : CallF} {h : AHeap} {s : Option Nat} {t : List AVal} {dst : Option Tmp} {tt : TypeId} {ps : String} {af : Array Edge} {g : Option (Nat × Bool)} {ars : Array Operand} {ty : Array TypeId} :
    aStep C0 call false h s t ⟨dst, .call { callee := .value (.func 4), args := ars, argTypes := ty }, tt, ps, af, g⟩ = aInvoke C0 call 4 (ars.toList.map (aEval t)) h := by
  obtain ⟨i, hi⟩ := fn4
  exact st_call hi

set_option maxRecDepth 100000 in
set_option maxHeartbeats 2000000 in
theorem sums_call (L : List UInt8) : (aCall C0 800 3 [.fs (encB L) L.length none] []).map Prod.fst = some (.ret (.sc (.bool true))) := by
  have hl : (L.take 300).length ≤ 1000 := by simp; omega
  have nw := new_inv 779 L
  have aw := awake_inv 399
  have nx := next_inv 779 8 (by omega) hl 0
  have hv := nextV_range (L.take 300) 0 (n := 8) (by omega)
  generalize hL : L.take 300 = L1 at *
  obtain ⟨k, hk⟩ : ∃ k : Nat, nextV L1 0 8 = k := ⟨(nextV L1 0 8).toNat, by omega⟩
  rw [hk] at nx
  have hk7 : k ≤ 7 := by omega
  cases k with
  | zero =>
    have hloop := main_none 399 (L := L1) (nextK L1 0 8)
    have sd := sum_drawn_nil 399
    have hlen : (encI (hist [])).length = 7 := by simp [encI, hist_length]
    have htk : List.take 7 (encI (hist [])) = encI (hist []) := List.take_of_length_le (by omega)
    unfold aCall
    simp only [fn3]
    simp only [Try.f3, loopB, loopsOf, Option.getD_some, List.nil_append, List.append_nil, List.cons_append, List.getElem?_cons_zero, List.getElem?_cons_succ, List.getElem?_nil, codesO, mgi] at hloop nw
    simp only [Int.cast_ofNat_Int] at nx nw
    simp only [Try.f3, Option.getD_some, List.length_cons, List.length_nil, List.cons_append, List.nil_append, Nat.reduceAdd, Nat.reduceSub, List.replicate]
    simp (maxSteps := 1000000) (disch := first | ((with_reducible show aGc _ _ _ _ = _); with_unfolding_all exact aGc_at (live := [3, 4, 5, 6, 7]) (L := [0, 1]) (by kernel_rfl) (by kernel_rfl) (by decide) (by kernel_rfl) (.cons rfl (flat_arr _ rfl) (.cons rfl (flat_arr _ (encI_locs _)) .nil))) | (with_unfolding_all exact (rfl : (_ : Option AObj) = _)) | ((with_reducible show List.length _ = _); simp only [List.length_cons, List.length_nil, Nat.reduceAdd]; rfl) | ((with_reducible show quietRegion _ _ _ = true); decide +kernel) | ((with_reducible show (edgesOk _ _ && pairsOk _ _ _) = true); exact id (by kernel_rfl))) only [aCode_seq, aCode_ops, aCode_cnd, aCode_skip, aCode_exit, aCode_ret, aCode_block, aCode_quiet, aOps_n, aOps_c, aWanted, aEval, ofVal, ofVal1, aPut_some, aPut_none, applyP_nil, applyP_cons,
    st_move, st_assign, st_load, st_store, st_fieldAddr, st_field, st_indexAddr, st_index, st_slice, st_build, st_pick, st_nilCheck, st_extract, st_binOp, st_unOp, st_convert, st_len, st_alloc, st_box, st_buildSlice, st_makeSlice, st_makeFunc, st_append,
    qr_some, rr_some, binV, unV, storeV, nilV, pickV, extV, intBin, loadV, mkV, storeW, fieldAddrV, fieldV, partV, idxS, idxA, lenS, sliceW, bnd, aBox, aNew, newSlice, appendV, srcCells, freeIdx, firstDead, AVal.cells, ld3, ld5, ld22, ld27, ld29, ld37, ld43, so3, so27, so37, so43, fa45_0, fa45_1, fa37_1, fa43_0, fa43_1, ix22, ix26, ix29, ix27, ln22, ln26, ln29, sl22, sl26, ap26, ap29, al27, al37, al43, cv53, bd43, bd45, bd37, bs29, bs26, AVal.oneCell, AVal.known,
    aResults, aResult, oneOr, List.set_cons_zero, List.set_cons_succ, List.getD_eq_getElem?_getD, List.getElem?_cons_succ, List.getElem?_cons_zero, List.getElem?_nil, Option.getD_some, List.getElem?_toArray, List.drop, List.take, List.drop_zero, List.take_zero, List.length_cons, List.length_nil,
    List.nil_append, List.cons_append, List.append_nil, List.map, List.all_cons, List.all_nil, List.replicate, Option.map_some, Option.map_none,
    ↓reduceIte, Nat.reduceAdd, Nat.reduceSub, Nat.reduceMul, Nat.reducePow, Nat.reduceLeDiff, Nat.reduceLT, Nat.reduceEqDiff, Nat.zero_add, Nat.add_zero, Nat.mul_one, Nat.zero_mul, Int.reduceLT, Int.reduceLE, Int.reduceToNat, Int.reduceNeg,
    decide_eq_true_eq, decide_true, decide_false, Bool.false_eq_true, Bool.not_true, Bool.not_false, beqTT, beqTF, beqFT, beqFF, beq_self_eq_true, Bool.and_self, and_self, and_true, true_and, not_true_eq_false, not_false_eq_true, Int.toNat_natCast, Int.natCast_nonneg, Int.cast_ofNat_Int, if_true, if_false, ite_true, ite_false, Option.isSome_none, Option.isSome_some, Option.getD_none, false_implies, forall_const, Bool.or_self, Option.map_none, aw, nw, nx, hloop, sd, htk, hlen, ↓st27, eq27_hist, st_call4, st_call fn5, st_call fn6, st_calld fn8, aCode_drawK (id := 22), drawK_n, drawK_c, withSlots, nSlots, ak_move, ak_assign, ak_pick, ak_binOp, ak_unOp, ak_nilCheck, ak_fieldAddr, ak_field, ak_indexAddr, ak_index, ak_slice, ak_build, ak_extract, ak_makeFunc, ak_makeInterface, ak_len, ak_load, ak_store, ak_call, ak_alloc, ak_box, ak_buildSlice, ak_makeSlice, ak_append, dstOk, ft_move, ft_assign, ft_pick, ft_binOp, ft_unOp, ft_nilCheck, ft_fieldAddr, ft_field, ft_indexAddr, ft_index, ft_slice, ft_build, ft_extract, ft_makeFunc, ft_makeInterface, ft_len, ft_load, ft_store, ft_convert, ft_alloc, ft_box, ft_buildSlice, ft_makeSlice, ft_append, ft_call, drawEnd_ok, List.all_cons, List.all_nil, List.contains_cons, List.contains_nil, Nat.reduceBEq, Bool.or_false, Bool.or_true, Bool.false_or, Bool.true_or, List.length_append, List.length_replicate, Option.toList_some, Option.toList_none, locs, List.flatMap_cons, List.flatMap_nil, Int.natCast_zero, Nat.le_refl]
  | succ k =>
    obtain ⟨p', l', tn', v1, v2, a', gg, hloop⟩ := main_many 399 hl (nextK L1 0 8) k (by omega)
    have hm := gg.most
    have sl := fun (h : AHeap) (l : Nat) (w : Bool) => sum_drawn 399 gg.len gg.most gg.small (h := h) (l := l) (w := w)
    have st := fun (h : AHeap) (l : Nat) (w : Bool) => sum_drawn 399 gg.tlen gg.most gg.tsmall (h := h) (l := l) (w := w)
    rw [hist_perm gg.perm] at st
    have r1 : ∀ (o0 o2 o3 : AObj) (w : Bool), reach 8 [o0, .arr (encY l') w, o2, o3] (nub (locsL [.ms 1 0 a' 7 a' false])) = [1] := fun o0 o2 o3 w => by
      have : nub (locsL [.ms 1 0 a' 7 a' false]) = [1] := rfl
      rw [this]
      exact reach_done fun x hx => by
        simp only [List.mem_singleton] at hx
        subst hx
        simp only [olocs, List.getElem?_cons_succ, List.getElem?_cons_zero, objLocs, encY_locs]
    have r2 : ∀ (o0 o1 o3 : AObj) (w : Bool), reach 8 [o0, o1, .arr (encY tn') w, o3] (nub (locsL [.ms 2 0 a' 7 a' false])) = [2] := fun o0 o1 o3 w => by
      have : nub (locsL [.ms 2 0 a' 7 a' false]) = [2] := rfl
      rw [this]
      exact reach_done fun x hx => by
        simp only [List.mem_singleton] at hx
        subst hx
        simp only [olocs, List.getElem?_cons_succ, List.getElem?_cons_zero, objLocs, encY_locs]
    have sl2 := fun (o0 o2 o3 : AObj) => sl [o0, .arr (encY l') v1, o2, o3] 1 v1 rfl
    have st2 := fun (o0 o1 o3 : AObj) => st [o0, o1, .arr (encY tn') v2, o3] 2 v2 rfl
    have hlen : (encI (hist (binsOf l'))).length = 7 := by simp [encI, hist_length]
    have htk : List.take 7 (encI (hist (binsOf l'))) = encI (hist (binsOf l')) := List.take_of_length_le (by omega)
    unfold aCall
    simp only [fn3]
    simp only [Try.f3, loopB, loopsOf, Option.getD_some, List.nil_append, List.append_nil, List.cons_append, List.getElem?_cons_zero, List.getElem?_cons_succ, List.getElem?_nil, codesO, mgi] at hloop nw
    simp only [Int.cast_ofNat_Int] at nx nw
    simp only [Try.f3, Option.getD_some, List.length_cons, List.length_nil, List.cons_append, List.nil_append, Nat.reduceAdd, Nat.reduceSub, List.replicate]
    simp (maxSteps := 1000000) (disch := first | ((with_reducible show aGc _ _ _ _ = _); with_unfolding_all exact aGc_at (live := [3, 4, 5, 6, 7]) (L := [0, 1]) (by kernel_rfl) (by kernel_rfl) (by decide) (by kernel_rfl) (.cons rfl (flat_arr _ rfl) (.cons rfl (flat_arr _ (encI_locs _)) .nil))) | ((with_reducible show List.length _ = _); simp only [List.length_cons, List.length_nil, Nat.reduceAdd]; rfl) | ((with_reducible show quietRegion _ _ _ = true); decide +kernel) | ((with_reducible show (edgesOk _ _ && pairsOk _ _ _) = true); exact id (by kernel_rfl))) only [aCode_seq, aCode_ops, aCode_cnd, aCode_skip, aCode_exit, aCode_ret, aCode_block, aCode_quiet, aOps_n, aOps_c, aWanted, aEval, ofVal, ofVal1, aPut_some, aPut_none, applyP_nil, applyP_cons,
    st_move, st_assign, st_load, st_store, st_fieldAddr, st_field, st_indexAddr, st_index, st_slice, st_build, st_pick, st_nilCheck, st_extract, st_binOp, st_unOp, st_convert, st_len, st_alloc, st_box, st_buildSlice, st_makeSlice, st_makeFunc, st_append,
    qr_some, rr_some, binV, unV, storeV, nilV, pickV, extV, intBin, loadV, mkV, storeW, fieldAddrV, fieldV, partV, idxS, idxA, lenS, sliceW, bnd, aBox, aNew, newSlice, appendV, srcCells, freeIdx, firstDead, AVal.cells, ld3, ld5, ld22, ld27, ld29, ld37, ld43, so3, so27, so37, so43, fa45_0, fa45_1, fa37_1, fa43_0, fa43_1, ix22, ix26, ix29, ix27, ln22, ln26, ln29, sl22, sl26, ap26, ap29, al27, al37, al43, cv53, bd43, bd45, bd37, bs29, bs26, AVal.oneCell, AVal.known,
    aResults, aResult, oneOr, List.set_cons_zero, List.set_cons_succ, List.getD_eq_getElem?_getD, List.getElem?_cons_succ, List.getElem?_cons_zero, List.getElem?_nil, Option.getD_some, List.getElem?_toArray, List.drop, List.take, List.drop_zero, List.take_zero, List.length_cons, List.length_nil,
    List.nil_append, List.cons_append, List.append_nil, List.map, List.all_cons, List.all_nil, List.replicate, Option.map_some, Option.map_none,
    ↓reduceIte, Nat.reduceAdd, Nat.reduceSub, Nat.reduceMul, Nat.reducePow, Nat.reduceLeDiff, Nat.reduceLT, Nat.reduceEqDiff, Nat.zero_add, Nat.add_zero, Nat.mul_one, Nat.zero_mul, Int.reduceLT, Int.reduceLE, Int.reduceToNat, Int.reduceNeg,
    decide_eq_true_eq, decide_true, decide_false, Bool.false_eq_true, Bool.not_true, Bool.not_false, beqTT, beqTF, beqFT, beqFF, beq_self_eq_true, Bool.and_self, and_self, and_true, true_and, not_true_eq_false, not_false_eq_true, Int.toNat_natCast, Int.natCast_nonneg, Int.cast_ofNat_Int, if_true, if_false, ite_true, ite_false, Option.isSome_none, Option.isSome_some, Option.getD_none, false_implies, forall_const, Bool.or_self, Option.map_none, aw, nw, nx, hloop, sl2, st2, r1, r2, Bool.and_true, htk, hlen, ↓st27, eq27_hist, st_call4, st_call fn5, st_call fn6, st_calld fn8, aCode_drawK (id := 22), drawK_n, drawK_c, withSlots, nSlots, ak_move, ak_assign, ak_pick, ak_binOp, ak_unOp, ak_nilCheck, ak_fieldAddr, ak_field, ak_indexAddr, ak_index, ak_slice, ak_build, ak_extract, ak_makeFunc, ak_makeInterface, ak_len, ak_load, ak_store, ak_call, ak_alloc, ak_box, ak_buildSlice, ak_makeSlice, ak_append, dstOk, ft_move, ft_assign, ft_pick, ft_binOp, ft_unOp, ft_nilCheck, ft_fieldAddr, ft_field, ft_indexAddr, ft_index, ft_slice, ft_build, ft_extract, ft_makeFunc, ft_makeInterface, ft_len, ft_load, ft_store, ft_convert, ft_alloc, ft_box, ft_buildSlice, ft_makeSlice, ft_append, ft_call, drawEnd_ok, List.all_cons, List.all_nil, List.contains_cons, List.contains_nil, Nat.reduceBEq, Bool.or_false, Bool.or_true, Bool.false_or, Bool.true_or, List.length_append, List.length_replicate, Option.toList_some, Option.toList_none, locs, List.flatMap_cons, List.flatMap_nil, Int.natCast_zero, Nat.le_refl]

end Go.Proofs.Ytjfdjendaagccaa

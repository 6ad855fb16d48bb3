/-
  copy, clear, make, the two conversions between bytes and strings, len, comparisons with nil.
-/
import Derived.Test.YtjfdjendaagccaaAe7
namespace Go.Proofs.Ae
open Go

/-! ### copy -/
def aCopy (C : Cfg) (h : AHeap) (dT : TypeId) (dst x : AVal) : Option (AVal × Patch) :=
  match C.ty dT with
  | some di => match di.desc with
    | .slice elem => match C.ty elem with
      | some ei => match srcCells h ei.size x with
        | some (n, cs) => match dst with
          | .sc (.slice none d _) => if min n d = 0 then some (.sc (.int .i64 0), []) else none
          | .fs _ d _ => if min n d = 0 then some (.sc (.int .i64 0), []) else none
          | .ms l off d sz _ _ =>
            if min n d = 0 then some (.sc (.int .i64 0), [])
            else match h[l]? with
              | some (.arr content true) =>
                if sz = ei.size ∧ off + min n d * sz ≤ content.length ∧ (cs.take (min n d * sz)).all AVal.oneCell = true then
                  some (.sc (.int .i64 (min n d : Nat)), [(l, .arr (content.take off ++ cs.take (min n d * sz) ++ content.drop (off + (cs.take (min n d * sz)).length)) true)])
                else none
              | _ => none
          | _ => none
        | none => none
      | none => none
    | _ => none
  | none => none

theorem sound_copy {C : Cfg} (ok : C.Ok) {E : Env} {h : AHeap} {w : World} (g : Good E h w.heap) {dT t : TypeId} {xT : TypeId} {dst x r : AVal} {vd vx : Value} {p : Patch}
    (hr : aCopy C h dT dst x = some (r, p)) (hd : Rv E dst vd) (hx : Rv E x vx) :
    Sound C.P (fun E v => Rv E r v) (Builtin.copy_ #[dT, xT] t #[vd, vx]) E h w (applyP h p) := by
  unfold aCopy at hr
  split at hr
  · rename_i di hdi
    split at hr
    · rename_i elem hdd
      have hu : (underlying dT).run C.P w = .ok (.slice elem) w := by rw [← hdd]; exact run_underlying ok hdi w
      split at hr
      · rename_i ei hei
        split at hr
        · rename_i n cs hsrc
          have hcl := srcCells_length hsrc
          obtain ⟨hlen, hf⟩ := run_src (P := C.P) g hsrc hx
          have start : ∀ {base : Option Addr} {d c m : Nat} {arr : Array Value}, min n d = m → (Builtin.firstCells ei.size m vx).run C.P w = .ok arr w →
              (Builtin.copy_ #[dT, xT] t #[.slice base d c, vx]).run C.P w = match base with
                | some a => ((storeCells a arr.toList).run C.P w).andThen fun _ w' => .ok (goInt m) w'
                | none => .ok (goInt m) w := by
            intro base d c m arr hm ha
            have hm' : Nat.min n d = m := hm
            unfold Builtin.copy_
            simp only [List.getElem?_toArray, List.getElem?_cons_zero, List.getElem?_cons_succ, Sem.run_bind, hu, Result.andThen_ok, run_sizeOf ok hei w, hlen, hm', ha]
            cases base <;> simp
          have idle : ∀ {base : Option Addr} {d c : Nat}, min n d = 0 → (Builtin.copy_ #[dT, xT] t #[.slice base d c, vx]).run C.P w = .ok (.int .i64 0) w := by
            intro base d c hm
            obtain ⟨arr, ha, hrel⟩ := hf 0 (Nat.zero_le _)
            have : arr = #[] := by
              have := hrel.length
              simp at this
              exact Array.eq_empty_of_size_eq_zero this.symm
            subst this
            rw [start hm ha]
            cases base <;> simp [storeCells, goInt]
          split at hr
          · split at hr
            · rename_i hm
              simp only [Option.some.injEq, Prod.mk.injEq] at hr
              obtain ⟨rfl, rfl⟩ := hr
              cases hd
              exact .same g (idle hm) (.sc _)
            · simp at hr
          · split at hr
            · rename_i hm
              simp only [Option.some.injEq, Prod.mk.injEq] at hr
              obtain ⟨rfl, rfl⟩ := hr
              cases hd <;> exact .same g (idle hm) (.sc _)
            · simp at hr
          · rename_i l off d sz lo ex
            split at hr
            · rename_i hm
              simp only [Option.some.injEq, Prod.mk.injEq] at hr
              obtain ⟨rfl, rfl⟩ := hr
              cases hd
              exact .same g (idle hm) (.sc _)
            · split at hr
              · rename_i content e
                split at hr
                · rename_i hb
                  obtain ⟨rfl, h1, h2⟩ := hb
                  simp only [Option.some.injEq, Prod.mk.injEq] at hr
                  obtain ⟨rfl, rfl⟩ := hr
                  cases hd with
                  | ms _ _ _ _ _ _ b n' tot cap' hm hn ht hl hlo hc =>
                    obtain ⟨rfl, rfl⟩ := ArrAt.own_mem g e hm
                    obtain ⟨arr, ha, hrel⟩ := hf (min n d) (Nat.min_le_left _ _)
                    have hmul : min n d * ei.size ≤ n * ei.size := Nat.mul_le_mul_right _ (Nat.min_le_left _ _)
                    have hll : (cs.take (min n d * ei.size)).length = min n d * ei.size := by simp; omega
                    obtain ⟨w', k1, k2, k3, k4⟩ := sound_write (C := C) (off := off) g e (new := cs.take (min n d * ei.size)) (vs := arr.toList) (by omega) hrel h2
                    rw [applyP_live (Good.live_arr e)]
                    refine ⟨goInt (min n d : Nat), w', E, ?_, .sc _, k2, k3, k4⟩
                    rw [start rfl ha]
                    simp [k1]
                · simp at hr
              · simp at hr
          · simp at hr
        · simp at hr
      · simp at hr
    · simp at hr
  · simp at hr

/-! ### clear -/
def aClear (C : Cfg) (h : AHeap) (t : TypeId) (x : AVal) : Option (AVal × Patch) :=
  match C.ty t with
  | some i => match i.desc with
    | .slice elem => match C.ty elem with
      | some ei => match ei.zero with
        | some z => match x with
          | .sc (.slice none _ _) => some (.tup [], [])
          | .fs _ 0 _ => some (.tup [], [])
          | .ms _ _ 0 _ _ _ => some (.tup [], [])
          | .ms l off len sz _ _ => match h[l]? with
            | some (.arr content true) =>
              if sz = ei.size ∧ z.cells.size = ei.size ∧ off + len * sz ≤ content.length ∧ (zeros z (len * sz)).all AVal.oneCell = true then
                some (.tup [], [(l, .arr (content.take off ++ zeros z (len * sz) ++ content.drop (off + (zeros z (len * sz)).length)) true)])
              else none
            | _ => none
          | _ => none
        | none => none
      | none => none
    | _ => none
  | none => none

theorem sound_clear {C : Cfg} (ok : C.Ok) {E : Env} {h : AHeap} {w : World} (g : Good E h w.heap) {t t' : TypeId} {x r : AVal} {vx : Value} {p : Patch}
    (hr : aClear C h t x = some (r, p)) (hx : Rv E x vx) : Sound C.P (fun E v => Rv E r v) (Builtin.clear_ #[t] t' #[vx]) E h w (applyP h p) := by
  unfold aClear at hr
  split at hr
  · rename_i i hi
    split at hr
    · rename_i elem hd
      have hu : (underlying t).run C.P w = .ok (.slice elem) w := by rw [← hd]; exact run_underlying ok hi w
      split at hr
      · rename_i ei hei
        split at hr
        · rename_i z hz
          split at hr
          · simp only [Option.some.injEq, Prod.mk.injEq] at hr
            obtain ⟨rfl, rfl⟩ := hr
            cases hx
            exact .same (v := .tuple #[]) g (by simp [Builtin.clear_, hu]) (.tup _ _ .nil)
          · simp only [Option.some.injEq, Prod.mk.injEq] at hr
            obtain ⟨rfl, rfl⟩ := hr
            cases hx <;> exact .same (v := .tuple #[]) g (by simp [Builtin.clear_, hu]) (.tup _ _ .nil)
          · simp only [Option.some.injEq, Prod.mk.injEq] at hr
            obtain ⟨rfl, rfl⟩ := hr
            cases hx
            exact .same (v := .tuple #[]) g (by simp [Builtin.clear_, hu]) (.tup _ _ .nil)
          · rename_i l off len sz lo ex hne
            split at hr
            · rename_i content e
              split at hr
              · rename_i hb
                obtain ⟨rfl, h1, h2, h3⟩ := hb
                simp only [Option.some.injEq, Prod.mk.injEq] at hr
                obtain ⟨rfl, rfl⟩ := hr
                cases hx with
                | ms _ _ _ _ _ _ b n' tot cap' hm hn ht hl hlo hc =>
                  obtain ⟨rfl, rfl⟩ := ArrAt.own_mem g e hm
                  have hll : (zeros z (len * ei.size)).length = len * ei.size := by simp [zeros]
                  have hrel : RvL E (zeros z (len * ei.size)) (Builtin.zeroCells z.cells len).toList := by rw [← h1]; exact zeros_rel z _
                  obtain ⟨w', k1, k2, k3, k4⟩ := sound_write (C := C) (off := off) g e (new := zeros z (len * ei.size)) (vs := (Builtin.zeroCells z.cells len).toList) (by omega) hrel h3
                  rw [applyP_live (Good.live_arr e)]
                  refine ⟨.tuple #[], w', E, ?_, .tup _ _ .nil, k2, k3, k4⟩
                  unfold Builtin.clear_
                  simp only [List.getElem?_toArray, List.getElem?_cons_zero, Sem.run_bind, hu, Result.andThen_ok]
                  cases len with
                  | zero => exact absurd rfl (hne)
                  | succ n => simp [run_zeroValue ok hei w hz, k1]
              · simp at hr
            · simp at hr
          · simp at hr
        · simp at hr
      · simp at hr
    · simp at hr
  · simp at hr

/-! ### make -/
def aMakeSlice (C : Cfg) (h : AHeap) (slot : Option Nat) (t : TypeId) (len cap : AVal) : Option (AVal × Patch) :=
  match C.ty t, len, cap with
  | some i, .sc (.int _ n), .sc (.int _ m) => match i.desc with
    | .slice elem => match C.ty elem with
      | some ei => match ei.zero with
        | some z => if 0 ≤ n ∧ n ≤ m ∧ m ≤ 2 ^ 40 ∧ ei.bytes * m ≤ 2 ^ 40 then newSlice h slot (zeros z (m.toNat * ei.size)) n.toNat ei.size m.toNat true else none
        | none => none
      | none => none
    | _ => none
  | _, _, _ => none

theorem wrap_small {n : Int} (h0 : 0 ≤ n) (h1 : n ≤ 2 ^ 40) : IntKind.i64.wrap n = n := by
  have h2 : n % 2 ^ 64 = n := by omega
  unfold IntKind.wrap
  simp only [IntKind.bits, IntKind.signed, h2, Bool.true_and]
  rw [if_neg]
  simp
  omega

theorem sound_makeSlice {C : Cfg} (ok : C.Ok) {E : Env} {h : AHeap} {w : World} (g : Good E h w.heap) {slot : Option Nat} {t : TypeId} {len cap r : AVal} {vl vc : Value} {p : Patch}
    (hr : aMakeSlice C h slot t len cap = some (r, p)) (hl : Rv E len vl) (hc : Rv E cap vc) :
    Sound C.P (fun E v => Rv E r v) (Instr.makeSlice t vl vc) E h w (applyP h p) := by
  unfold aMakeSlice at hr
  split at hr
  · rename_i i k1 n k2 m hi
    split at hr
    · rename_i elem hd
      have hu : (underlying t).run C.P w = .ok (.slice elem) w := by rw [← hd]; exact run_underlying ok hi w
      split at hr
      · rename_i ei hei
        split at hr
        · rename_i z hz
          split at hr
          · rename_i hb
            obtain ⟨h0, h1, h2, h3⟩ := hb
            cases hl
            cases hc
            obtain ⟨ti, hti, _, hbytes, _⟩ := run_typeInfo ok hei w
            have hwn := wrap_small h0 (Int.le_trans h1 h2)
            have hwm := wrap_small (Int.le_trans h0 h1) h2
            have hrel : ∃ z0 : Array Value, (∀ k : Array Value → Sem Value, (if m.toNat * ei.size = 0 then (do let zero ← pure #[]; k zero) else (do let x ← zeroValue elem; let zero ← pure x.cells; k zero) : Sem Value).run C.P w = (k z0).run C.P w) ∧
                RvL E (zeros z (m.toNat * ei.size)) ((Array.range (m.toNat * ei.size)).map (z0[· % z0.size]!)).toList := by
              by_cases hz0 : m.toNat * ei.size = 0
              · refine ⟨#[], fun k => by simp [hz0], ?_⟩
                rw [hz0]; simp [zeros]; exact .nil
              · exact ⟨z.cells, fun k => by simp [hz0, run_zeroValue ok hei w hz], zeros_rel z _⟩
            obtain ⟨z0, q1, q2⟩ := hrel
            have hmul : n.toNat * ei.size ≤ m.toNat * ei.size := Nat.mul_le_mul_right _ (by omega)
            have hsz : ((Array.range (m.toNat * ei.size)).map (z0[· % z0.size]!)).size = m.toNat * ei.size := by simp
            have hzl : (zeros z (m.toNat * ei.size)).length = m.toNat * ei.size := by simp [zeros]
            refine sound_newSlice (w0 := w) (cap := m.toNat) (e := elem) (fr := (0, 0)) (c := (Array.range (m.toNat * ei.size)).map (z0[· % z0.size]!))
              (w' := { w with heap := w.heap.push (.cells ((Array.range (m.toNat * ei.size)).map (z0[· % z0.size]!)) elem) }) g hr (by omega) ?_ (fun i _ hh => by simp at hh) (by omega) (by omega) (by omega) (Nat.le_refl _) (fun _ => rfl) ?_ rfl rfl ⟨rfl, rfl, rfl⟩
            · rw [List.take_of_length_le (by simp; omega)]; exact q2
            · have hroom : ∀ k (w : World), (askRoom k).run C.P w = .ok () w := fun k w => by
                unfold askRoom; split <;> simp [mark, Sem.run]
              have hbad : ¬ ((decide (m < 0) || decide ((ti.bytes : Int) * m > 2 ^ 48)) = true ∨ n < 0) ∧ ¬ (n > m) := by
                rw [hbytes]
                refine ⟨?_, by omega⟩
                rintro (h | h)
                · simp only [Bool.or_eq_true, decide_eq_true_eq] at h
                  omega
                · omega
              unfold Instr.makeSlice
              simp only [Sem.run_bind, hu, Result.andThen_ok, asInt, asIntOf, Sem.run_pure, hti, hwn, hwm]
              have hif : ((decide (m < 0) || decide ((ti.bytes : Int) * m > 2 ^ 48)) || decide (n < 0) || decide (n > m)) = false := by
                rw [hbytes]
                have e1 : decide (m < 0) = false := by simp; omega
                have e2 : decide ((ei.bytes : Int) * m > 2 ^ 48) = false := by simp; omega
                have e3 : decide (n < 0) = false := by simp; omega
                have e4 : decide (n > m) = false := by simp; omega
                simp only [e1, e2, e3, e4]; rfl
              simp only [hif, Bool.false_eq_true, if_false, Sem.run_bind, hroom, Result.andThen_ok, run_sizeOf ok hei w]
              rw [q1]
              simp [newRow, newObj, Sem.run]
          · simp at hr
        · simp at hr
      · simp at hr
    · simp at hr
  · simp at hr

/-! ### bytes and strings -/
def bytesOf : List AVal → Option (List Int)
  | [] => some []
  | .sc (.int .u8 n) :: r => match bytesOf r with
    | some l => some (n :: l)
    | none => none
  | _ => none

theorem bytesOf_rel {E : Env} : ∀ {cs : List AVal} {ns : List Int} {vs : List Value}, bytesOf cs = some ns → RvL E cs vs → vs = ns.map (Value.int .u8)
  | [], ns, _, h, .nil => by simp [bytesOf] at h; subst h; rfl
  | a :: r, ns, _, h, .cons ha hr => by
    unfold bytesOf at h
    split at h
    · simp at *
    · rename_i n r' heq
      simp only [List.cons.injEq] at heq
      obtain ⟨rfl, rfl⟩ := heq
      split at h
      · rename_i l hl
        simp only [Option.some.injEq] at h
        subst h
        cases ha
        rw [bytesOf_rel hl hr]; rfl
      · simp at h
    · simp at h

def strOf (ns : List Int) : ByteArray := ⟨(ns.map fun n => UInt8.ofNat n.toNat).toArray⟩

theorem foldl_push_bytes : ∀ (ns : List Int) (s : ByteArray), ns.foldl (fun r n => r.push (UInt8.ofNat n.toNat)) s = ⟨s.data ++ (ns.map fun n => UInt8.ofNat n.toNat).toArray⟩
  | [], s => by simp
  | n :: ns, s => by
    rw [List.foldl_cons, foldl_push_bytes ns]
    congr 1
    apply Array.ext'
    simp [ByteArray.push]

def aToString (C : Cfg) (h : AHeap) (src dst : TypeId) (x : AVal) : Option AVal :=
  match C.ty src, C.ty dst with
  | some si, some di => match si.desc, di.desc with
    | .slice e, .string => match C.ty e with
      | some ei => match ei.desc with
        | .int .u8 => match x with
          | .sc (.slice none _ _) => some (.sc (.string .empty))
          | _ => match srcCells h 1 x with
            | some (_, cs) => match bytesOf cs with
              | some ns => some (.sc (.string (strOf ns)))
              | none => none
            | none => none
        | _ => none
      | none => none
    | _, _ => none
  | _, _ => none

theorem sound_toString {C : Cfg} (ok : C.Ok) {E : Env} {h : AHeap} {w : World} (g : Good E h w.heap) {src dst : TypeId} {x r : AVal} {vx : Value}
    (hr : aToString C h src dst x = some r) (hx : Rv E x vx) (hsl : ∃ a l c, vx = .slice a l c) : Sound C.P (fun E v => Rv E r v) (convert src dst vx) E h w h := by
  unfold aToString at hr
  split at hr
  · rename_i si di hsi hdi
    split at hr
    · rename_i e hsd hdd
      split at hr
      · rename_i ei hei
        split at hr
        · rename_i hed
          obtain ⟨a, l, c, rfl⟩ := hsl
          have hconv := run_convert_bytes_string (P := C.P) w src dst e a l c (by rw [← hsd]; exact ok.und _ _ hsi) (by rw [← hed]; exact ok.und _ _ hei) (by rw [← hdd]; exact ok.und _ _ hdi)
          split at hr
          · simp only [Option.some.injEq] at hr
            subst hr
            cases hx
            exact .same g (by rw [hconv]; simp [Conv.bytesToString]) (.sc _)
          · split at hr
            · rename_i n cs hsrc
              split at hr
              · rename_i ns hns
                simp only [Option.some.injEq] at hr
                subst hr
                cases a with
                | none =>
                  cases hx with
                  | sc => rename_i hne; exact absurd rfl (hne l c)
                  | fsn =>
                    simp only [srcCells, List.length_nil, Nat.zero_mul, if_true, Option.some.injEq, Prod.mk.injEq] at hsrc
                    obtain ⟨rfl, rfl⟩ := hsrc
                    simp only [bytesOf, Option.some.injEq] at hns
                    subst hns
                    refine .same g (v := .string .empty) (by rw [hconv]; simp [Conv.bytesToString]) ?_
                    exact .sc _
                  | top => simp [srcCells] at hsrc
                | some a =>
                  obtain ⟨hlen, hf⟩ := run_src (P := C.P) g hsrc hx
                  have hln : n = l := by simp [Builtin.lenOf] at hlen; exact hlen.symm
                  subst hln
                  obtain ⟨arr, ha, hrel⟩ := hf n (Nat.le_refl _)
                  have hcl := srcCells_length hsrc
                  rw [List.take_of_length_le (by omega)] at hrel
                  have harr := bytesOf_rel hns hrel
                  have harr' : arr = (ns.map (Value.int .u8)).toArray := by rw [← harr]
                  have hload : (loadCells a n).run C.P w = .ok (ns.map (Value.int .u8)).toArray w := by
                    rw [← harr']; simpa [Builtin.firstCells] using ha
                  refine .same g (by rw [hconv, run_bytesToString w a n c ns hload]) ?_
                  rw [foldl_push_bytes]
                  have : (⟨ByteArray.empty.data ++ (ns.map fun n => UInt8.ofNat n.toNat).toArray⟩ : ByteArray) = strOf ns := by
                    unfold strOf; congr 1; simp
                  rw [this]
                  exact .sc _
              · simp at hr
            · simp at hr
        · simp at hr
      · simp at hr
    · simp at hr
  · simp at hr

def aToBytes (C : Cfg) (h : AHeap) (slot : Option Nat) (dst : TypeId) (x : AVal) : Option (AVal × Patch) :=
  match C.ty dst, x with
  | some di, .sc (.string s) => match di.desc with
    | .slice e => match C.ty e with
      | some ei => match ei.desc with
        | .int .u8 => newSlice h slot (s.data.toList.map fun b => .sc (.int .u8 b.toNat)) s.size 1 s.size false
        | _ => none
      | none => none
    | _ => none
  | _, _ => none

theorem sound_toBytes {C : Cfg} (ok : C.Ok) {E : Env} {h : AHeap} {w : World} (g : Good E h w.heap) {slot : Option Nat} {src dst : TypeId} {si : TyI} (hsi : C.ty src = some si) {x r : AVal} {vx : Value}
    {p : Patch} (hr : aToBytes C h slot dst x = some (r, p)) (hx : Rv E x vx) : Sound C.P (fun E v => Rv E r v) (convert src dst vx) E h w (applyP h p) := by
  unfold aToBytes at hr
  split at hr
  · rename_i di s hdi
    split at hr
    · rename_i e hdd
      split at hr
      · rename_i ei hei
        split at hr
        · rename_i hed
          cases hx
          have hus := run_underlying ok hsi w
          have hud : (underlying dst).run C.P w = .ok (.slice e) w := by rw [← hdd]; exact run_underlying ok hdi w
          have hue : (underlying e).run C.P w = .ok (.int .u8) w := by rw [← hed]; exact run_underlying ok hei w
          let cap := s.size + w.tape w.drawn (.appendCap s.size 0 e) % (2 ^ 63 - s.size)
          let c : Array Value := (s.data.map fun b => Value.int .u8 b.toNat) ++ Array.replicate (cap - s.size) (.int .u8 0)
          have hcs : c.size = cap := by simp [c, cap]
          have hrun : (convert src dst (.string s)).run C.P w = .ok (.slice (some ⟨w.heap.size, 0, none⟩) s.size cap)
              { w with drawn := w.drawn + 1, heap := w.heap.push (.cells c e (c.size, c.size + 1)) } := by
            have hconv : (convert src dst (.string s)).run C.P w = (Conv.stringToBytes e s).run C.P w := by
              unfold convert
              simp only [Sem.run_bind, hus, hud, Result.andThen_ok]
              cases si.desc <;> simp [hue]
            have hfr : ∀ (b : Nat) (ww : World), ww.heap[b]? = some (.cells c e (0, 0)) → (markStringish ⟨b, 0, none⟩).run C.P ww = .ok () { ww with heap := ww.heap.setIfInBounds b (.cells c e (c.size, c.size + 1)) } := by
              intro b ww hb
              obtain ⟨hlt, hget⟩ := Array.getElem?_eq_some_iff.1 hb
              have : (ww.freeze ⟨b, c.size, none⟩ 1) = { ww with heap := ww.heap.setIfInBounds b (.cells c e (c.size, c.size + 1)) } := by
                unfold World.freeze
                simp only [Nat.one_ne_zero, if_false]
                congr 1
                apply Array.ext_getElem?
                intro i
                rw [Array.getElem?_modify, Array.getElem?_setIfInBounds]
                by_cases hi : b = i
                · subst hi; simp [hlt, hget]
                · simp [hi]
              simp [markStringish, shape, freeze, Sem.run, bind, Sem.bind, World.shape?, hb, this, pure]
            rw [hconv]
            have hch : (choose (.appendCap s.size 0 e)).run C.P w = .ok cap { w with drawn := w.drawn + 1 } := by
              simp [choose, Sem.run, Question.forced, Question.cut, cap]
            unfold Conv.stringToBytes
            simp only [Sem.run_bind, hch, Result.andThen_ok]
            have hnew : (newRow e ((s.data.map fun b => Value.int .u8 b.toNat) ++ Array.replicate (cap - s.size) (.int .u8 0))).run C.P { w with drawn := w.drawn + 1 } =
                .ok ⟨w.heap.size, 0, none⟩ { w with drawn := w.drawn + 1, heap := w.heap.push (.cells c e) } := by
              simp [newRow, newObj, Sem.run]
              exact ⟨rfl, rfl, rfl⟩
            rw [hnew]
            simp only [Result.andThen_ok]
            rw [hfr _ _ push_size]
            have : (w.heap.push (Obj.cells c e)).setIfInBounds w.heap.size (Obj.cells c e (c.size, c.size + 1)) = w.heap.push (Obj.cells c e (c.size, c.size + 1)) := by
              apply Array.ext_getElem?
              intro i
              rw [Array.getElem?_setIfInBounds, Array.getElem?_push, Array.getElem?_push]
              by_cases hi : w.heap.size = i
              · subst hi; simp
              · have : i ≠ w.heap.size := fun h => hi h.symm
                simp [hi, this]
            simp [this]
          have hl : (s.data.toList.map fun b => AVal.sc (.int .u8 b.toNat)).length = s.size := by rw [List.length_map]; rfl
          refine sound_newSlice (w0 := w) (cap := cap) (c := c) (e := e) (fr := (c.size, c.size + 1)) g hr (by rw [hl, hcs]; simp [cap]) ?_ (fun i hi hh => by simp only at hh; omega)
            (by rw [hl]; omega) (by rw [hcs]; omega) (Nat.le_refl _) (by simp [cap]) (by simp) hrun rfl rfl ⟨rfl, rfl, rfl⟩
          rw [hl]
          have : c.toList.take s.size = s.data.toList.map fun b => Value.int .u8 b.toNat := by
            simp only [c, Array.toList_append, Array.toList_map]
            rw [List.take_append_of_le_length (by simp), List.take_of_length_le (by simp)]
          rw [this]
          have := RvL.map_sc (E := E) (s.data.toList.map fun b => Value.int .u8 (b.toNat : Int))
          rwa [List.map_map] at this
        · simp at hr
      · simp at hr
    · simp at hr
  · simp at hr

end Go.Proofs.Ae

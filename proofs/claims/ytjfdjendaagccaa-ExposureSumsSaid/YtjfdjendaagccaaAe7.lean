/-
  append, copy, clear, make, and the two conversions between bytes and strings.
-/
import Derived.Test.YtjfdjendaagccaaAe6
import Derived.Laws.BytesString
namespace Go.Proofs.Ae
open Go

/-- what append and copy read: how many elements, and their cells -/
def srcCells (h : AHeap) (sz : Nat) (x : AVal) : Option (Nat × List AVal) :=
  match x with
  | .sc (.slice none n _) => if n = 0 then some (0, []) else none
  | .sc (.string s) => if sz = 1 then some (s.size, s.data.toList.map fun b => .sc (.int .u8 b.toNat)) else none
  | .fs cells len _ => if cells.length = len * sz then some (len, cells) else none
  | .ms l off len sz' _ _ => match h[l]? with
    | some (.arr content _) => if sz' = sz ∧ off + len * sz ≤ content.length then some (len, (content.drop off).take (len * sz)) else none
    | _ => none
  | _ => none

theorem srcCells_length {h : AHeap} {sz : Nat} {x : AVal} {n : Nat} {cs : List AVal} (hs : srcCells h sz x = some (n, cs)) : cs.length = n * sz := by
  unfold srcCells at hs
  split at hs
  · split at hs
    · simp at hs; obtain ⟨rfl, rfl⟩ := hs; simp
    · simp at hs
  · split at hs
    · rename_i h1
      simp only [Option.some.injEq, Prod.mk.injEq] at hs; obtain ⟨rfl, rfl⟩ := hs; subst h1
      rw [List.length_map, Nat.mul_one]; rfl
    · simp at hs
  · split at hs
    · rename_i h1
      simp only [Option.some.injEq, Prod.mk.injEq] at hs; obtain ⟨rfl, rfl⟩ := hs; exact h1
    · simp at hs
  · split at hs
    · split at hs
      · simp only [Option.some.injEq, Prod.mk.injEq] at hs; obtain ⟨rfl, rfl⟩ := hs; simp; omega
      · simp at hs
    · simp at hs
  · simp at hs

theorem run_src {P : Program} {E : Env} {h : AHeap} {w : World} (g : Good E h w.heap) {sz : Nat} {x : AVal} {v : Value} {n : Nat} {cs : List AVal} (hs : srcCells h sz x = some (n, cs))
    (hx : Rv E x v) : (Builtin.lenOf v).run P w = .ok n w ∧ ∀ m, m ≤ n → ∃ arr : Array Value, (Builtin.firstCells sz m v).run P w = .ok arr w ∧ RvL E (cs.take (m * sz)) arr.toList := by
  have hlen := srcCells_length hs
  unfold srcCells at hs
  split at hs
  · rename_i n0 c0
    split at hs
    · rename_i hz
      simp only [Option.some.injEq, Prod.mk.injEq] at hs
      obtain ⟨rfl, rfl⟩ := hs
      cases hx
      refine ⟨by simp [Builtin.lenOf, hz], fun m _ => ⟨#[], by simp [Builtin.firstCells], by simp; exact .nil⟩⟩
    · simp at hs
  · rename_i s
    split at hs
    · rename_i h1
      simp only [Option.some.injEq, Prod.mk.injEq] at hs
      obtain ⟨rfl, rfl⟩ := hs
      cases hx
      refine ⟨by simp [Builtin.lenOf], fun m hm => ⟨(s.extract 0 m).data.map fun b => .int .u8 b.toNat, by simp [Builtin.firstCells], ?_⟩⟩
      subst h1
      have e1 : ((s.extract 0 m).data.map fun b => Value.int .u8 b.toNat).toList = (s.data.toList.map fun b => Value.int .u8 (b.toNat : Int)).take (m * 1) := by
        simp [ByteArray.data_extract, List.extract_eq_take_drop]
      rw [e1]
      have := (RvL.map_sc (E := E) (s.data.toList.map fun b => Value.int .u8 (b.toNat : Int))).take (m * 1)
      rwa [List.map_map] at this
    · simp at hs
  · rename_i cells len cap
    split at hs
    · rename_i h1
      simp only [Option.some.injEq, Prod.mk.injEq] at hs
      obtain ⟨rfl, rfl⟩ := hs
      cases hx with
      | fsn _ hc =>
        refine ⟨by simp [Builtin.lenOf], fun m hm => ⟨#[], ?_, by simp; exact .nil⟩⟩
        have : m = 0 := by omega
        subst this
        simp [Builtin.firstCells, loadCells, loadCellsFrom]
      | fs0 a _ cap' hc =>
        refine ⟨by simp [Builtin.lenOf], fun m hm => ⟨#[], ?_, by simp; exact .nil⟩⟩
        have : m = 0 := by omega
        subst this
        simp [Builtin.firstCells, loadCells, loadCellsFrom]
      | fs _ _ _ b off cap' c vs hl hc hfm hp hv =>
        refine ⟨by simp [Builtin.lenOf], fun m hm => ?_⟩
        obtain ⟨c', T, fr, k1, k2⟩ := g.fm b c hfm
        have hvl := hv.length
        obtain ⟨t1, ht1⟩ := k2
        obtain ⟨t2, ht2⟩ := hp
        have hmul : m * sz ≤ len * sz := Nat.mul_le_mul_right _ hm
        by_cases hz : m * sz = 0
        · refine ⟨#[], by simp [Builtin.firstCells, hz, loadCells, loadCellsFrom], by simp [hz]; exact .nil⟩
        · have hcl : off + vs.length ≤ c.length := by
            have := congrArg List.length ht2
            simp at this
            omega
          have hsz : c.length ≤ c'.size := by
            have := congrArg List.length ht1; simp at this; omega
          refine ⟨_, by simp only [Builtin.firstCells]; exact run_loadCells_at P k1 (by omega), ?_⟩
          have h4 : (c'.toList.drop off).take (m * sz) = vs.take (m * sz) := by
            rw [← ht1, List.drop_append_of_le_length (by omega), ← ht2, List.append_assoc, List.take_append_of_le_length (by omega)]
          simp only [h4]
          exact (RvL.mono E.pure_le hv).take _
    · simp at hs
  · rename_i l off len sz' lo ex
    split at hs
    · rename_i content wr e
      split at hs
      · rename_i h1
        obtain ⟨rfl, h2⟩ := h1
        simp only [Option.some.injEq, Prod.mk.injEq] at hs
        obtain ⟨rfl, rfl⟩ := hs
        cases hx with
        | ms _ _ _ _ _ _ b n' tot cap' hm hn ht hl hlo hc =>
          refine ⟨by simp [Builtin.lenOf], fun m hmm => ?_⟩
          obtain ⟨c, T, fr, hb, k1, k2, k3⟩ := ArrAt.read g e hm
          have hmul : m * sz' ≤ len * sz' := Nat.mul_le_mul_right _ hmm
          refine ⟨_, by simp only [Builtin.firstCells]; exact run_loadCells_at P hb (by omega), ?_⟩
          have := (k3.drop off).take (m * sz')
          rw [List.drop_take, List.drop_take, List.take_take, List.take_take, Nat.min_eq_left (by omega)] at this
          rw [List.take_take, Nat.min_eq_left (by omega)]
          exact this
      · simp at hs
    · simp at hs
  · simp at hs

theorem nextslicecap_le {n c : Nat} (h : c < n) : Builtin.nextslicecap n c ≤ 2 * n + 1000 := by
  have grow : ∀ (k c : Nat), c ≤ 2 * n + 1000 → (c < n ∨ n ≤ c) → Builtin.growBy n k c ≤ 2 * n + 1000 := by
    intro k
    induction k with
    | zero => intro c hc _; simpa [Builtin.growBy] using hc
    | succ k ih =>
      intro c hc hor
      unfold Builtin.growBy
      split
      · exact hc
      · exact ih _ (by omega) (by omega)
  unfold Builtin.nextslicecap
  split
  · omega
  · split
    · omega
    · exact grow 4 c (by omega) (by omega)

theorem zeroCells_size (z : Array Value) (n : Nat) : (Builtin.zeroCells z n).size = n * z.size := by simp [Builtin.zeroCells]

section
variable {C : Cfg} (ok : C.Ok) {sT xT elem : TypeId} {si ei xi : TyI} (hs : C.ty sT = some si) (hsd : si.desc = .slice elem) (he : C.ty elem = some ei) (hx : C.ty xT = some xi)
  (hxi : ∀ k, xi.desc ≠ .int k)
include ok hs hsd he hx hxi

theorem run_append_room {w w' : World} {base : Option Addr} {sLen sCap n : Nat} {x : Value} {arr : Array Value} (hn : (Builtin.lenOf x).run C.P w = .ok n w)
    (ha : (Builtin.firstCells ei.size n x).run C.P w = .ok arr w) (hle : sLen + n ≤ sCap)
    (hst : ∀ a, base = some a → (storeCells (a.add (sLen * ei.size)) arr.toList).run C.P w = .ok () w') (hnone : base = none → w' = w) :
    (Builtin.append_ #[sT, xT] sT #[.slice base sLen sCap, x]).run C.P w = .ok (.slice base (sLen + n) sCap) w' := by
  have hu : (underlying sT).run C.P w = .ok (.slice elem) w := by rw [← hsd]; exact run_underlying ok hs w
  have hz : (match xi.desc with | .int _ => true | _ => false) = false := by
    cases hd : xi.desc <;> first | rfl | exact absurd hd (hxi _)
  have hux := run_underlying ok hx w
  unfold Builtin.append_
  simp only [List.getElem?_toArray, List.getElem?_cons_zero, List.getElem?_cons_succ, Sem.run_bind, hu, Result.andThen_ok, run_sizeOf ok he w]
  simp only [hux, Result.andThen_ok, Sem.run_pure, hz]
  simp only [Bool.false_eq_true, if_false, Sem.run_bind, hn, Result.andThen_ok, hle, if_true, Bool.not_false, ha]
  cases base with
  | none => simp [hnone rfl]
  | some a => simp [hst a rfl]

theorem run_append_grow {w : World} {base : Option Addr} {sLen sCap n : Nat} {x : Value} {arr old : Array Value} {z : Value} (hzv : ei.zero = some z)
    (hn : (Builtin.lenOf x).run C.P w = .ok n w) (ha : (Builtin.firstCells ei.size n x).run C.P { w with drawn := w.drawn + 1 } = .ok arr { w with drawn := w.drawn + 1 })
    (ho : (Builtin.firstCells ei.size sLen (.slice base sLen sCap)).run C.P { w with drawn := w.drawn + 1 } = .ok old { w with drawn := w.drawn + 1 }) (hlt : sCap < sLen + n)
    (hb : (sLen + n) ≤ 2 ^ 40 ∧ ei.bytes ≤ 2 ^ 6 ∨ (sLen + n) * ei.bytes ≤ 2 ^ 40 ∧ (sLen + n) ≤ 2 ^ 40 ∧ ei.bytes ≤ 2 ^ 36) : ∃ newCap, sLen + n ≤ newCap ∧
      (Builtin.append_ #[sT, xT] sT #[.slice base sLen sCap, x]).run C.P w =
        .ok (.slice (some ⟨w.heap.size, 0, none⟩) (sLen + n) newCap) { w with drawn := w.drawn + 1, heap := w.heap.push (.cells (old ++ arr ++ Builtin.zeroCells z.cells (newCap - (sLen + n))) elem) } := by
  have hu : (underlying sT).run C.P w = .ok (.slice elem) w := by rw [← hsd]; exact run_underlying ok hs w
  have hz : (match xi.desc with | .int _ => true | _ => false) = false := by
    cases hd : xi.desc <;> first | rfl | exact absurd hd (hxi _)
  have hux := run_underlying ok hx w
  obtain ⟨ti, hti0, _, hbytes, _⟩ := ok.info _ _ he
  have hti : ∀ w : World, (typeInfo elem).run C.P w = .ok ti w := fun w => by
    simp [typeInfo, program, Sem.run, bind, Sem.bind, hti0, pure]
  refine ⟨sLen + n + w.tape w.drawn (.appendCap (sLen + n) sCap elem) % (2 ^ 63 - (sLen + n)), by omega, ?_⟩
  have hnle : ¬ (sLen + n ≤ sCap) := by omega
  have hcapb : ¬ (2 ^ 48 < Builtin.nextslicecap (sLen + n) sCap * ei.bytes) := by
    have h1 := nextslicecap_le hlt
    have h2 : Builtin.nextslicecap (sLen + n) sCap * ei.bytes ≤ (2 * (sLen + n) + 1000) * ei.bytes := Nat.mul_le_mul_right _ h1
    have h3 : (2 * (sLen + n) + 1000) * ei.bytes = 2 * ((sLen + n) * ei.bytes) + 1000 * ei.bytes := by
      rw [Nat.add_mul, Nat.mul_assoc]
    rcases hb with ⟨hb1, hb2⟩ | ⟨hb1, hb2, hb3⟩
    · have : (sLen + n) * ei.bytes ≤ 2 ^ 40 * 2 ^ 6 := Nat.mul_le_mul hb1 hb2
      omega
    · omega
  have hmax : ¬ ((((sLen + n : Nat) : Int) > IntKind.i64.max) ∧ (False ∨ ei.bytes = 0)) := by
    rintro ⟨h1, _⟩
    have : IntKind.i64.max = 9223372036854775807 := rfl
    rw [this] at h1
    rcases hb with ⟨hb1, _⟩ | ⟨_, hb1, _⟩ <;> omega
  unfold Builtin.append_
  simp only [List.getElem?_toArray, List.getElem?_cons_zero, List.getElem?_cons_succ, Sem.run_bind, hu, Result.andThen_ok, run_sizeOf ok he w]
  simp only [hux, Result.andThen_ok, Sem.run_pure, hz]
  simp only [Bool.false_eq_true, if_false, Sem.run_bind, hn, Result.andThen_ok, hnle, Bool.not_false, if_true, hti, hbytes]
  rw [if_neg hmax]
  simp only [Sem.run_bind, hti, hbytes, Result.andThen_ok]
  rw [if_neg hcapb]
  have hchoose : (choose (.appendCap (sLen + n) sCap elem)).run C.P w = .ok (sLen + n + w.tape w.drawn (.appendCap (sLen + n) sCap elem) % (2 ^ 63 - (sLen + n))) { w with drawn := w.drawn + 1 } := by
    simp [choose, Sem.run, Question.forced, Question.cut]
  have hroom : ∀ k (w : World), (askRoom k).run C.P w = .ok () w := fun k w => by
    unfold askRoom; split <;> simp [mark, Sem.run]
  simp only [Sem.run_bind, hchoose, Result.andThen_ok, hti, hroom, ho, ha, run_zeroValue ok he _ hzv, hbytes]
  simp [newRow, newObj, Sem.run]
  exact ⟨rfl, rfl, rfl⟩
end

/-! ### append -/
def aAppend (C : Cfg) (h : AHeap) (slot : Option Nat) (sT xT : TypeId) (s x : AVal) : Option (AVal × Patch) :=
  match C.ty sT, C.ty xT with
  | some si, some xi => match si.desc, xi.desc with
    | _, .int _ => none
    | .slice elem, _ => match C.ty elem with
      | some ei => match ei.zero, srcCells h ei.size x with
        | some z, some (n, cs) =>
          if z.cells.size = ei.size ∧ ei.bytes ≤ 2 ^ 36 then
            if n = 0 then (match s with
              | .sc (.slice none 0 c) => some (.sc (.slice none 0 c), [])
              | .fs cells len cap => some (.fs cells len cap, [])
              | .ms l off len sz lo ex => some (.ms l off len sz lo ex, [])
              | _ => none)
            else match s with
              | .sc (.slice none 0 0) => if n * ei.bytes ≤ 2 ^ 40 ∧ n ≤ 2 ^ 40 then newSlice h slot cs n ei.size n false else none
              | .fs cells len (some cap) =>
                if cap = len ∧ cells.length = len * ei.size ∧ (len + n) * ei.bytes ≤ 2 ^ 40 ∧ len + n ≤ 2 ^ 40 then newSlice h slot (cells ++ cs) (len + n) ei.size (len + n) false else none
              | .ms l off len sz lo ex => match h[l]? with
                | some (.arr content wr) =>
                  if sz = ei.size ∧ off + len * sz ≤ content.length ∧ cs.all AVal.oneCell = true ∧ (len + n) * ei.bytes ≤ 2 ^ 40 ∧ len + n ≤ 2 ^ 40 then
                    if len + n ≤ lo then
                      if wr = true ∧ off + (len + n) * sz ≤ content.length then
                        some (.ms l off (len + n) sz lo ex, [(l, .arr (content.take (off + len * sz) ++ cs ++ content.drop (off + len * sz + cs.length)) true)])
                      else none
                    else if ex = true then newSlice h slot ((content.drop off).take (len * sz) ++ cs) (len + n) sz (len + n) false
                    else if off = 0 ∧ len * sz = content.length ∧ 0 < sz then some (.ms l 0 (len + n) sz (len + n) false, [(l, .arr (content ++ cs) false)])
                    else none
                  else none
                | _ => none
              | _ => none
          else none
        | _, _ => none
      | none => none
    | _, _ => none
  | _, _ => none

theorem Good.drawn {E : Env} {h : AHeap} {w : World} (g : Good E h w.heap) (d : Nat) : Good E h ({ w with drawn := d } : World).heap := g

section
variable {C : Cfg} (ok : C.Ok) {sT xT elem : TypeId} {si ei xi : TyI} (hs : C.ty sT = some si) (hsd : si.desc = .slice elem) (he : C.ty elem = some ei) (hx : C.ty xT = some xi)
  (hxi : ∀ k, xi.desc ≠ .int k) {E : Env} {h : AHeap} {w : World} (g : Good E h w.heap) {n : Nat} {cs : List AVal} {x : AVal} {vx : Value} (hsrc : srcCells h ei.size x = some (n, cs)) (hxv : Rv E x vx)
include ok hs hsd he hx hxi g hsrc hxv

/-- growth into a new block that nobody else knows -/
theorem sound_append_fresh {slot : Option Nat} {z : Value} (hz : ei.zero = some z) (hzs : z.cells.size = ei.size) (hbb : ei.bytes ≤ 2 ^ 36) {base : Option Addr} {sLen sCap : Nat}
    {r : AVal} {p : Patch} {oldA : List AVal} {s : AVal} (hsrcS : srcCells h ei.size s = some (sLen, oldA)) (hsv : Rv E s (.slice base sLen sCap))
    (hlt : sCap < sLen + n) (hb1 : (sLen + n) * ei.bytes ≤ 2 ^ 40) (hb2 : sLen + n ≤ 2 ^ 40) (hnew : newSlice h slot (oldA ++ cs) (sLen + n) ei.size (sLen + n) false = some (r, p)) :
    Sound C.P (fun E v => Rv E r v) (Builtin.append_ #[sT, xT] sT #[.slice base sLen sCap, vx]) E h w (applyP h p) := by
  obtain ⟨hlen, _⟩ := run_src (P := C.P) g hsrc hxv
  obtain ⟨arr, harr, hrel0⟩ := (run_src (P := C.P) (g.drawn (w.drawn + 1)) hsrc hxv).2 n (Nat.le_refl _)
  obtain ⟨old, ho, hro0⟩ := (run_src (P := C.P) (g.drawn (w.drawn + 1)) hsrcS hsv).2 sLen (Nat.le_refl _)
  have hcl := srcCells_length hsrc
  have hlo := srcCells_length hsrcS
  have hrel : RvL E cs arr.toList := by rwa [List.take_of_length_le (by omega)] at hrel0
  have hro : RvL E oldA old.toList := by rwa [List.take_of_length_le (by omega)] at hro0
  have hal : arr.size = n * ei.size := by have := hrel.length; simp at this; omega
  have hol : old.size = sLen * ei.size := by have := hro.length; simp at this; omega
  obtain ⟨newCap, hcap, hrun⟩ := run_append_grow ok hs hsd he hx hxi hz hlen harr ho hlt (.inr ⟨hb1, hb2, hbb⟩)
  have hsize : (old ++ arr ++ Builtin.zeroCells z.cells (newCap - (sLen + n))).size = newCap * ei.size := by
    simp only [Array.size_append, zeroCells_size, hzs, hol, hal]
    rw [← Nat.add_mul, ← Nat.add_mul]; congr 1; omega
  have hll : (oldA ++ cs).length = (sLen + n) * ei.size := by rw [List.length_append, hlo, hcl, ← Nat.add_mul]
  refine sound_newSlice (w0 := w) (cap := newCap) g hnew ?_ ?_ (fr := (0, 0)) (fun i _ hh => by simp at hh) ?_ ?_ (Nat.le_refl _) hcap (by simp) hrun rfl rfl ⟨rfl, rfl, rfl⟩
  · rw [hsize, hll]; exact Nat.mul_le_mul_right _ hcap
  · have : (old ++ arr ++ Builtin.zeroCells z.cells (newCap - (sLen + n))).toList.take (oldA ++ cs).length = old.toList ++ arr.toList := by
      rw [hll, Nat.add_mul, Array.toList_append, Array.toList_append, List.take_append_of_le_length (by simp; omega), List.take_of_length_le (by simp; omega)]
    rw [this]
    exact hro.append hrel
  · rw [hll]; exact Nat.le_refl _
  · rw [hsize]; exact Nat.le_refl _

/-- nothing is added -/
theorem sound_append_none (hn : n = 0) {base : Option Addr} {sLen sCap : Nat} (hle : sLen ≤ sCap) {r : AVal} (hr : Rv E r (.slice base sLen sCap)) :
    Sound C.P (fun E v => Rv E r v) (Builtin.append_ #[sT, xT] sT #[.slice base sLen sCap, vx]) E h w h := by
  subst hn
  obtain ⟨hlen, hf⟩ := run_src (P := C.P) g hsrc hxv
  obtain ⟨arr, harr, hrel0⟩ := hf 0 (Nat.le_refl _)
  have harr0 : arr = #[] := by
    have := hrel0.length
    simp at this
    exact Array.eq_empty_of_size_eq_zero this.symm
  subst harr0
  have := run_append_room ok hs hsd he hx hxi (w' := w) (base := base) (sLen := sLen) hlen harr (by omega) (fun a _ => by simp [storeCells]) (fun _ => rfl)
  exact .same g (by simpa using this) hr

/-- into room that is known to be there -/
theorem sound_append_room {l off len lo : Nat} {ex : Bool} {content : List AVal} {v : Value} (e : h[l]? = some (.arr content true)) (hsv : Rv E (.ms l off len ei.size lo ex) v)
    (ho : cs.all AVal.oneCell = true) (hfit : len + n ≤ lo) (hw2 : off + (len + n) * ei.size ≤ content.length) :
    Sound C.P (fun E v => Rv E (.ms l off (len + n) ei.size lo ex) v) (Builtin.append_ #[sT, xT] sT #[v, vx]) E h w
      (h.set l (.arr (content.take (off + len * ei.size) ++ cs ++ content.drop (off + len * ei.size + cs.length)) true)) := by
  obtain ⟨hlen, hf⟩ := run_src (P := C.P) g hsrc hxv
  obtain ⟨arr, harr, hrel0⟩ := hf n (Nat.le_refl _)
  have hcl := srcCells_length hsrc
  have hrel : RvL E cs arr.toList := by rwa [List.take_of_length_le (by omega)] at hrel0
  cases hsv with
  | ms _ _ _ _ _ _ b n' tot cap' hm hn ht hl hlo hc =>
    obtain ⟨rfl, rfl⟩ := ArrAt.own_mem g e hm
    have hadd : (len + n) * ei.size = len * ei.size + n * ei.size := Nat.add_mul _ _ _
    obtain ⟨w', k1, k2, k3, k4⟩ := sound_write (C := C) (off := off + len * ei.size) g e (new := cs) (vs := arr.toList) (by omega) hrel ho
    have := run_append_room ok hs hsd he hx hxi (w' := w') (base := some ⟨E.blk l, off, none⟩) (sLen := len) (sCap := cap') hlen harr (by omega)
      (fun a ha => by simp only [Option.some.injEq] at ha; subst ha; rw [add_flat]; exact k1) (by simp)
    exact ⟨_, w', E, this, .ms _ _ _ _ _ _ _ _ _ _ hm hw2 ht hfit hlo hc, k2, k3, k4⟩

/-- at the tip: in place or in a new block, as Go will -/
theorem sound_append_tip {l len lo : Nat} {ex : Bool} {wr : Bool} {content : List AVal} {v z : Value} (hz : ei.zero = some z) (hzs : z.cells.size = ei.size) (hbb : ei.bytes ≤ 2 ^ 36)
    (e : h[l]? = some (.arr content wr)) (hsv : Rv E (.ms l 0 len ei.size lo ex) v) (ho : cs.all AVal.oneCell = true) (ht2 : len * ei.size = content.length) (hsz : 0 < ei.size) (hnpos : 0 < n)
    (h4 : (len + n) * ei.bytes ≤ 2 ^ 40) (h5 : len + n ≤ 2 ^ 40) :
    Sound C.P (fun E v => Rv E (.ms l 0 (len + n) ei.size (len + n) false) v) (Builtin.append_ #[sT, xT] sT #[v, vx]) E h w (h.set l (.arr (content ++ cs) false)) := by
  have hcl := srcCells_length hsrc
  obtain ⟨c, T, fr, a⟩ := g.arr l content wr e
  have hle := a.le
  have hcspos : 0 < cs.length := by rw [hcl]; exact Nat.mul_pos hnpos hsz
  have hadd : (len + n) * ei.size = len * ei.size + n * ei.size := Nat.add_mul _ _ _
  obtain ⟨hlen, hf⟩ := run_src (P := C.P) g hsrc hxv
  cases hsv with
  | ms _ _ _ _ _ _ b n' tot cap' hm hn ht hl hlo hc =>
  have htipb : b = E.blk l ∧ n' = content.length ∧ tot = c.size := by
    rcases a.hist _ hm with ⟨q1, q2, q3⟩ | ⟨q1, _⟩
    · simp only at q1 q2 q3; exact ⟨q2, by omega, q3⟩
    · simp only at q1; omega
  obtain ⟨rfl, rfl, rfl⟩ := htipb
  by_cases hroom : len + n ≤ cap'
  · obtain ⟨arr, harr, hrel0⟩ := hf n (Nat.le_refl _)
    have hrel : RvL E cs arr.toList := by rwa [List.take_of_length_le (by omega)] at hrel0
    have hal : arr.toList.length = n * ei.size := by have := hrel.length; omega
    have hmul : (len + n) * ei.size ≤ cap' * ei.size := Nat.mul_le_mul_right _ hroom
    have hrun := run_storeCells_at C.P (b := E.blk l) (off := content.length) (T := T) (fr := fr) arr.toList 0 (w := w) (c := c) a.there a.free (by omega) (hrel.all_oneCell ho)
    rw [Nat.add_zero] at hrun
    have hps : (put c content.length arr.toList).size = c.size := put_size (by omega)
    obtain ⟨E', q1, q2, q3, q4, q5, q6, q7⟩ := good_onto g e (c' := put c content.length arr.toList) (new := cs) a hps (by omega)
      (by simp only [put]; rw [List.append_assoc, List.take_append_of_le_length (by simp; omega), List.take_take, Nat.min_self])
      (by
        have e1 : ((put c content.length arr.toList).toList.drop content.length).take cs.length = arr.toList := by
          simp only [put]
          rw [List.append_assoc, List.drop_append_of_le_length (by simp; omega), List.drop_eq_nil_of_le (by simp; omega), List.nil_append, List.take_append_of_le_length (by omega),
            List.take_of_length_le (by omega)]
        rw [e1]; exact hrel)
    have hrunA := run_append_room ok hs hsd he hx hxi (w' := { w with heap := w.heap.setIfInBounds (E.blk l) (.cells (put c content.length arr.toList) T fr) })
      (base := some ⟨E.blk l, 0, none⟩) (sLen := len) (sCap := cap') hlen harr hroom (fun a ha => by simp only [Option.some.injEq] at ha; subst ha; rw [add_flat, ht2, Nat.zero_add]; exact hrun) (by simp)
    exact ⟨_, _, E', hrunA, .ms _ _ _ _ _ _ _ _ _ _ q5 (by omega) (by omega) (Nat.le_refl _) hroom (by simp), q6, q7, rfl, rfl, rfl⟩
  · obtain ⟨arr, harr, hrel0⟩ := (run_src (P := C.P) (g.drawn (w.drawn + 1)) hsrc hxv).2 n (Nat.le_refl _)
    have hrel : RvL E cs arr.toList := by rwa [List.take_of_length_le (by omega)] at hrel0
    have hal : arr.toList.length = n * ei.size := by have := hrel.length; omega
    have hal' : arr.size = n * ei.size := by simpa using hal
    have hold : (Builtin.firstCells ei.size len (.slice (some ⟨E.blk l, 0, none⟩) len cap')).run C.P { w with drawn := w.drawn + 1 } = .ok (c.toList.take content.length).toArray { w with drawn := w.drawn + 1 } := by
      simp only [Builtin.firstCells]
      rw [run_loadCells_at (w := { w with drawn := w.drawn + 1 }) C.P a.there (by omega), ht2]
      simp
    obtain ⟨newCap, hcap, hrun⟩ := run_append_grow ok hs hsd he hx hxi hz hlen harr hold (by omega) (.inr ⟨h4, h5, hbb⟩)
    have hol : (c.toList.take content.length).toArray.size = len * ei.size := by simp; omega
    have hol' : (c.toList.take content.length).length = content.length := by simp; omega
    have hlist : ((c.toList.take content.length).toArray ++ arr ++ Builtin.zeroCells z.cells (newCap - (len + n))).toList = c.toList.take content.length ++ (arr.toList ++ (Builtin.zeroCells z.cells (newCap - (len + n))).toList) := by
      rw [Array.toList_append, Array.toList_append, List.append_assoc]
    have hsize : ((c.toList.take content.length).toArray ++ arr ++ Builtin.zeroCells z.cells (newCap - (len + n))).size = newCap * ei.size := by
      simp only [Array.size_append, zeroCells_size, hzs, hol, hal']
      rw [← Nat.add_mul, ← Nat.add_mul]; congr 1; omega
    have hcapm : (len + n) * ei.size ≤ newCap * ei.size := Nat.mul_le_mul_right _ hcap
    obtain ⟨E', q1, q2, q3, q4⟩ := good_grow (T' := elem) g e (c' := (c.toList.take content.length).toArray ++ arr ++ Builtin.zeroCells z.cells (newCap - (len + n))) (new := cs) a hcspos
      (by rw [hsize]; omega)
      (by rw [hlist, List.take_append_of_le_length (by omega), List.take_take, Nat.min_self])
      (by
        rw [hlist, List.drop_append_of_le_length (by omega), List.drop_eq_nil_of_le (by omega), List.nil_append, List.take_append_of_le_length (by omega), List.take_of_length_le (by omega)]
        exact hrel)
    rw [hsize] at q2
    exact ⟨_, _, E', hrun, .ms _ _ _ _ _ _ _ _ _ _ q2 (by omega) (by omega) (Nat.le_refl _) hcap (by simp), q3, q4, rfl, rfl, rfl⟩
end

set_option maxHeartbeats 1000000 in
theorem sound_append {C : Cfg} (ok : C.Ok) {E : Env} {h : AHeap} {w : World} (g : Good E h w.heap) {slot : Option Nat} {sT xT : TypeId} {s x r : AVal} {vs vx : Value} {p : Patch}
    (hr : aAppend C h slot sT xT s x = some (r, p)) (hsv : Rv E s vs) (hxv : Rv E x vx) :
    Sound C.P (fun E v => Rv E r v) (Builtin.append_ #[sT, xT] sT #[vs, vx]) E h w (applyP h p) := by
  unfold aAppend at hr
  split at hr
  · rename_i si xi hsi hxi
    split at hr
    · simp at hr
    · rename_i elem xd hsd hnot
      have hni : ∀ k, xi.desc ≠ .int k := fun k hk => hnot k hk
      split at hr
      · rename_i ei hei
        split at hr
        · rename_i z n cs hz hsrc
          split at hr
          · rename_i hzb
            obtain ⟨hzs, hbb⟩ := hzb
            split at hr
            · rename_i hn0
              split at hr
              · simp only [Option.some.injEq, Prod.mk.injEq] at hr
                obtain ⟨rfl, rfl⟩ := hr
                cases hsv
                exact sound_append_none ok hsi hsd hei hxi hni g hsrc hxv hn0 (Nat.zero_le _) (.sc _)
              · simp only [Option.some.injEq, Prod.mk.injEq] at hr
                obtain ⟨rfl, rfl⟩ := hr
                have hsv' := hsv
                cases hsv with
                | fsn _ hc => exact sound_append_none ok hsi hsd hei hxi hni g hsrc hxv hn0 (Nat.zero_le _) hsv'
                | fs0 a _ cap' hc => exact sound_append_none ok hsi hsd hei hxi hni g hsrc hxv hn0 (Nat.zero_le _) hsv'
                | fs _ _ _ b off cap' c vs hl hc hb hp hv => exact sound_append_none ok hsi hsd hei hxi hni g hsrc hxv hn0 hl hsv'
              · simp only [Option.some.injEq, Prod.mk.injEq] at hr
                obtain ⟨rfl, rfl⟩ := hr
                have hsv' := hsv
                cases hsv with
                | ms _ _ _ _ _ _ b n' tot cap' hm hn ht hl hlo hc => exact sound_append_none ok hsi hsd hei hxi hni g hsrc hxv hn0 (by omega) hsv'
              · simp at hr
            · rename_i hn0
              split at hr
              · split at hr
                · rename_i hb
                  cases hsv
                  exact sound_append_fresh ok hsi hsd hei hxi hni g hsrc hxv hz hzs hbb (s := .sc (.slice none 0 0)) (oldA := []) (by simp [srcCells]) (.sc _) (by omega) (by simpa using hb.1) (by simpa using hb.2) (by simpa using hr)
                · simp at hr
              · rename_i cells len cap
                split at hr
                · rename_i hb
                  obtain ⟨rfl, h2, h3, h4⟩ := hb
                  have hsrcS : srcCells h ei.size (.fs cells cap (some cap)) = some (cap, cells) := by simp [srcCells, h2]
                  have hcapv : ∃ base, vs = .slice base cap cap := by
                    cases hsv with
                    | fsn _ hc => exact ⟨_, rfl⟩
                    | fs0 a _ cap' hc => exact ⟨_, by rw [hc 0 rfl]⟩
                    | fs _ _ _ b off cap' c vs hl hc hb hp hv => exact ⟨_, by rw [hc cap rfl]⟩
                  obtain ⟨base, rfl⟩ := hcapv
                  exact sound_append_fresh ok hsi hsd hei hxi hni g hsrc hxv hz hzs hbb hsrcS hsv (by omega) h3 h4 hr
                · simp at hr
              · rename_i l off len sz lo ex
                split at hr
                · rename_i content wr e
                  split at hr
                  · rename_i hb
                    obtain ⟨rfl, h2, h3, h4, h5⟩ := hb
                    split at hr
                    · rename_i hfit
                      split at hr
                      · rename_i hw
                        obtain ⟨rfl, hw2⟩ := hw
                        simp only [Option.some.injEq, Prod.mk.injEq] at hr
                        obtain ⟨rfl, rfl⟩ := hr
                        rw [applyP_live (Good.live_arr e)]
                        exact sound_append_room ok hsi hsd hei hxi hni g hsrc hxv e hsv h3 hfit hw2
                      · simp at hr
                    · rename_i hfit
                      split at hr
                      · rename_i hex
                        have hsrcS : srcCells h ei.size (.ms l off len ei.size lo ex) = some (len, (content.drop off).take (len * ei.size)) := by simp [srcCells, e, h2]
                        have hsv' := hsv
                        cases hsv with
                        | ms _ _ _ _ _ _ b n' tot cap' hm hn ht hl hlo hc =>
                          exact sound_append_fresh ok hsi hsd hei hxi hni g hsrc hxv hz hzs hbb hsrcS hsv' (by rw [hc hex]; omega) h4 h5 hr
                      · split at hr
                        · rename_i htip
                          obtain ⟨rfl, ht2, hsz⟩ := htip
                          simp only [Option.some.injEq, Prod.mk.injEq] at hr
                          obtain ⟨rfl, rfl⟩ := hr
                          rw [applyP_live (Good.live_arr e)]
                          exact sound_append_tip ok hsi hsd hei hxi hni g hsrc hxv hz hzs hbb e hsv h3 ht2 hsz (by omega) h4 h5
                        · simp at hr
                  · simp at hr
                · simp at hr
              · simp at hr
          · simp at hr
        · simp at hr
      · simp at hr
    · simp at hr
  · simp at hr

end Go.Proofs.Ae

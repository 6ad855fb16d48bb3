/-
  The operations on memory with the types' numbers in place of the types.
-/
import Derived.Test.YtjfdjendaagccaaAeJ
namespace Go.Proofs.Ae
open Go

def mkV (agg : Bool) (cs : List AVal) : Option AVal := if agg then some (.agg cs) else match cs with
  | [v] => some v
  | _ => none

def loadV (h : AHeap) (agg : Bool) (sz : Nat) (a : AVal) : Option AVal := match a with
  | .ptr l off lim => match h[l]? with
    | some (.arr cells _) => if off + sz ≤ lim then mkV agg ((cells.drop off).take sz) else none
    | _ => none
  | .fp cells => if sz ≤ cells.length then mkV agg (cells.take sz) else none
  | _ => none

theorem load_of {C : Cfg} {t : TypeId} {agg : Bool} {sz : Nat} (ht : (C.ty t).map (fun i => (i.isAgg, i.size)) = some (agg, sz)) (h : AHeap) (a : AVal) : aLoad C h t a = loadV h agg sz a := by
  unfold aLoad
  cases hi : C.ty t with
  | none => simp [hi] at ht
  | some i =>
    simp only [hi, Option.map_some, Option.some.injEq, Prod.mk.injEq] at ht
    obtain ⟨rfl, rfl⟩ := ht
    rfl

def storeW (h : AHeap) (sz : Nat) (a x : AVal) : Option Patch := match a with
  | .ptr l off lim => match h[l]? with
    | some (.arr cells true) =>
      if off + sz ≤ lim ∧ x.cells.length = sz ∧ x.cells.all AVal.oneCell = true ∧ lim ≤ cells.length then
        some [(l, .arr (cells.take off ++ x.cells ++ cells.drop (off + sz)) true)]
      else none
    | _ => none
  | _ => none

theorem store_of {C : Cfg} {t : TypeId} {sz : Nat} (ht : (C.ty t).map (fun i => i.size) = some sz) (h : AHeap) (a x : AVal) : aStore C h t a x = storeW h sz a x := by
  unfold aStore
  cases hi : C.ty t with
  | none => simp [hi] at ht
  | some i =>
    simp only [hi, Option.map_some, Option.some.injEq] at ht
    subst ht
    rfl

def fieldAddrV (off sz : Nat) (a : AVal) : Option AVal := match a with
  | .ptr l o lim => if o + off + sz ≤ lim then some (.ptr l (o + off) (o + off + sz)) else none
  | .fp cells => some (.fp ((cells.drop off).take sz))
  | _ => none

/-- a field of a struct: its offset, and whether it is an aggregate, and its size -/
def fieldI (C : Cfg) (t : TypeId) (f : Nat) : Option (Nat × Bool × Nat) := match C.ty t with
  | some i => match i.desc with
    | .struct fields => match fields[f]? with
      | some fd => match C.ty fd.type with
        | some fi => some (fd.offset, fi.isAgg, fi.size)
        | none => none
      | none => none
    | _ => none
  | none => none

theorem fieldAddr_of {C : Cfg} {t : TypeId} {f off sz : Nat} {g : Bool} (ht : fieldI C t f = some (off, g, sz + 1)) (a : AVal) : aFieldAddr C t a f = fieldAddrV off (sz + 1) a := by
  unfold fieldI at ht
  unfold aFieldAddr
  split at ht
  · split at ht
    · split at ht
      · split at ht
        · rename_i fi _
          simp only [Option.some.injEq, Prod.mk.injEq] at ht
          obtain ⟨rfl, rfl, h2⟩ := ht
          simp_all [fieldAddrV]
          rfl
        · simp at ht
      · simp at ht
    · simp at ht
  · simp at ht

def partV (g : Bool) (off sz : Nat) (cs : List AVal) : Option AVal := if g then some (.agg ((cs.drop off).take sz)) else cs[off]?

def fieldV (g : Bool) (off sz : Nat) (x : AVal) : Option AVal := match x with
  | .agg cs => partV g off sz cs
  | _ => none

theorem field_of {C : Cfg} {t : TypeId} {f off sz : Nat} {g : Bool} (ht : fieldI C t f = some (off, g, sz)) (a : AVal) : aField C t a f = fieldV g off sz a := by
  unfold fieldI at ht
  unfold aField
  split at ht
  · split at ht
    · split at ht
      · split at ht
        · rename_i _ i hi _ fields hd _ fd hf _ fi hfi
          simp only [Option.some.injEq, Prod.mk.injEq] at ht
          obtain ⟨rfl, rfl, rfl⟩ := ht
          cases a <;> simp [hi, hd, hf, fieldV, aPart, hfi, partV]
        · simp at ht
      · simp at ht
    · simp at ht
  · simp at ht

def idxS (sz : Nat) (x ix : AVal) : Option AVal := match ix with
  | .sc (.int _ i) => match x with
    | .fs cells len _ => if 0 ≤ i ∧ i < len then some (.fp ((cells.drop (i.toNat * sz)).take sz)) else none
    | .ms l off len sz' _ _ => if 0 ≤ i ∧ i < len ∧ sz' = sz then some (.ptr l (off + i.toNat * sz') (off + i.toNat * sz' + sz')) else none
    | _ => none
  | _ => none

/-- the element of a slice or an array: the array's length, the element's size in cells and in bytes, and whether it is an aggregate -/
def elemI (C : Cfg) (t : TypeId) : Option (Option Nat × Nat × Nat × Bool) := match C.ty t with
  | some i => match i.desc with
    | .slice e => match C.ty e with
      | some ei => some (none, ei.size, ei.bytes, ei.isAgg)
      | none => none
    | .array n e => match C.ty e with
      | some ei => some (some n, ei.size, ei.bytes, ei.isAgg)
      | none => none
    | _ => none
  | none => none

theorem elem_slice {C : Cfg} {t : TypeId} {sz by' : Nat} {g : Bool} (ht : elemI C t = some (none, sz, by', g)) : ∃ i e ei, C.ty t = some i ∧ i.desc = .slice e ∧ C.ty e = some ei ∧ ei.size = sz ∧ ei.bytes = by' ∧ ei.isAgg = g := by
  unfold elemI at ht
  split at ht
  · split at ht
    · split at ht
      · rename_i _ i hi _ e hd _ ei he
        simp only [Option.some.injEq, Prod.mk.injEq, true_and] at ht
        exact ⟨i, e, ei, hi, hd, he, ht.1, ht.2.1, ht.2.2⟩
      · simp at ht
    · split at ht <;> simp at ht
    · simp at ht
  · simp at ht

theorem elem_array {C : Cfg} {t : TypeId} {n sz by' : Nat} {g : Bool} (ht : elemI C t = some (some n, sz, by', g)) : ∃ i e ei, C.ty t = some i ∧ i.desc = .array n e ∧ C.ty e = some ei ∧ ei.size = sz ∧ ei.bytes = by' ∧ ei.isAgg = g := by
  unfold elemI at ht
  split at ht
  · split at ht
    · split at ht <;> simp at ht
    · split at ht
      · rename_i _ i hi _ n' e hd _ ei he
        simp only [Option.some.injEq, Prod.mk.injEq] at ht
        obtain ⟨rfl, h⟩ := ht
        exact ⟨i, e, ei, hi, hd, he, h.1, h.2.1, h.2.2⟩
      · simp at ht
    · simp at ht
  · simp at ht

theorem idxS_of {C : Cfg} {t : TypeId} {sz by' : Nat} {g : Bool} (ht : elemI C t = some (none, sz, by', g)) (x ix : AVal) : aIndexAddr C t x ix = idxS sz x ix := by
  obtain ⟨i, e, ei, h1, h2, h3, rfl, _, _⟩ := elem_slice ht
  unfold aIndexAddr idxS
  cases ix with
  | sc v =>
    cases v <;> first | rfl | skip
    simp only [h1, h2, h3]
    cases x <;> rfl
  | _ => rfl

def idxA (n sz : Nat) (x ix : AVal) : Option AVal := match ix with
  | .sc (.int _ i) => match x with
    | .ptr l off lim => if 0 ≤ i ∧ i < n ∧ off + i.toNat * sz + sz ≤ lim then some (.ptr l (off + i.toNat * sz) (off + i.toNat * sz + sz)) else none
    | .fp cells => if 0 ≤ i ∧ i < n then some (.fp ((cells.drop (i.toNat * sz)).take sz)) else none
    | _ => none
  | _ => none

theorem idxA_of {C : Cfg} {t : TypeId} {n sz by' : Nat} {g : Bool} (ht : elemI C t = some (some n, sz, by', g)) (x ix : AVal) : aIndexAddr C t x ix = idxA n sz x ix := by
  obtain ⟨i, e, ei, h1, h2, h3, rfl, _, _⟩ := elem_array ht
  unfold aIndexAddr idxA
  cases ix with
  | sc v =>
    cases v <;> first | rfl | skip
    simp only [h1, h2, h3]
    cases x <;> rfl
  | _ => rfl

def lenS (x : AVal) : Option AVal := match x with
  | .fs _ n _ => some (.sc (.int .i64 n))
  | .ms _ _ n _ _ _ => some (.sc (.int .i64 n))
  | .sc (.slice none n _) => some (.sc (.int .i64 n))
  | _ => none

theorem lenS_of {C : Cfg} {t : TypeId} {sz by' : Nat} {g : Bool} (ht : elemI C t = some (none, sz, by', g)) (x : AVal) : aLen C t x = lenS x := by
  obtain ⟨i, e, ei, h1, h2, h3, rfl, _, _⟩ := elem_slice ht
  unfold aLen lenS
  simp only [h1, h2]
  cases x with
  | sc v =>
    cases v with
    | slice a n c => cases a <;> rfl
    | _ => rfl
  | _ => rfl

def sliceW (sz : Nat) (x : AVal) (lo hi mx : Option AVal) : Option AVal := match bnd lo, bnd hi, bnd mx with
  | some lo, some hi, some mx => match x with
    | .ms l off len sz' l0 ex =>
      if sz' = sz ∧ (mx.isSome = true → hi.isSome = true) ∧ mx.getD l0 ≤ l0 ∧ hi.getD len ≤ mx.getD l0 ∧ hi.getD len ≤ len ∧ lo.getD 0 ≤ hi.getD len then
        (if lo.getD 0 = 0 then some (.ms l off (hi.getD len) sz' (mx.getD l0) (mx.isSome || ex))
        else if lo.getD 0 < hi.getD len then some (.ms l (off + lo.getD 0 * sz') (hi.getD len - lo.getD 0) sz' (mx.getD l0 - lo.getD 0) (mx.isSome || ex))
        else some (.fs [] 0 (if (mx.isSome || ex) = true then some (mx.getD l0 - lo.getD 0) else none)))
      else none
    | .fs cells len cap =>
      if (mx.isSome = true → hi.isSome = true) ∧ mx.getD len ≤ len ∧ hi.getD len ≤ mx.getD len ∧ lo.getD 0 ≤ hi.getD len then
        some (.fs ((cells.drop (lo.getD 0 * sz)).take ((hi.getD len - lo.getD 0) * sz)) (hi.getD len - lo.getD 0)
          (match mx with | some m => some (m - lo.getD 0) | none => cap.map (· - lo.getD 0)))
      else none
    | .sc (.slice none 0 0) => if (mx.isSome = true → hi.isSome = true) ∧ mx.getD 0 = 0 ∧ hi.getD 0 = 0 ∧ lo.getD 0 = 0 then some (.sc (.slice none 0 0)) else none
    | _ => none
  | _, _, _ => none

theorem slice_of {C : Cfg} {t : TypeId} {sz by' : Nat} {g : Bool} (ht : elemI C t = some (none, sz, by', g)) (x : AVal) (lo hi mx : Option AVal) : aSlice C t x lo hi mx = sliceW sz x lo hi mx := by
  obtain ⟨i, e, ei, h1, h2, h3, rfl, _, _⟩ := elem_slice ht
  unfold aSlice sliceW
  simp only [h1]
  cases bnd lo <;> cases bnd hi <;> cases bnd mx <;> simp only [h2, h3] <;> rfl

def appendV (h : AHeap) (slot : Option Nat) (sz by' : Nat) (s x : AVal) : Option (AVal × Patch) := match srcCells h sz x with
  | some (n, cs) =>
    if n = 0 then (match s with
      | .sc (.slice none 0 c) => some (.sc (.slice none 0 c), [])
      | .fs cells len cap => some (.fs cells len cap, [])
      | .ms l off len sz lo ex => some (.ms l off len sz lo ex, [])
      | _ => none)
    else match s with
      | .sc (.slice none 0 0) => if n * by' ≤ 2 ^ 40 ∧ n ≤ 2 ^ 40 then newSlice h slot cs n sz n false else none
      | .fs cells len (some cap) =>
        if cap = len ∧ cells.length = len * sz ∧ (len + n) * by' ≤ 2 ^ 40 ∧ len + n ≤ 2 ^ 40 then newSlice h slot (cells ++ cs) (len + n) sz (len + n) false else none
      | .ms l off len sz' lo ex => match h[l]? with
        | some (.arr content wr) =>
          if sz' = sz ∧ off + len * sz' ≤ content.length ∧ cs.all AVal.oneCell = true ∧ (len + n) * by' ≤ 2 ^ 40 ∧ len + n ≤ 2 ^ 40 then
            if len + n ≤ lo then
              if wr = true ∧ off + (len + n) * sz' ≤ content.length then
                some (.ms l off (len + n) sz' lo ex, [(l, .arr (content.take (off + len * sz') ++ cs ++ content.drop (off + len * sz' + cs.length)) true)])
              else none
            else if ex = true then newSlice h slot ((content.drop off).take (len * sz') ++ cs) (len + n) sz' (len + n) false
            else if off = 0 ∧ len * sz' = content.length ∧ 0 < sz' then some (.ms l 0 (len + n) sz' (len + n) false, [(l, .arr (content ++ cs) false)])
            else none
          else none
        | _ => none
      | _ => none
  | none => none

/-- the element type's zero value has its size, and is not too big -/
def elemZ (C : Cfg) (t : TypeId) : Bool := match C.ty t with
  | some i => match i.desc with
    | .slice e => match C.ty e with
      | some ei => match ei.zero with
        | some z => decide (z.cells.size = ei.size ∧ ei.bytes ≤ 2 ^ 36)
        | none => false
      | none => false
    | _ => false
  | none => false

theorem append_of {C : Cfg} {t t' : TypeId} {sz by' sz' by'' : Nat} {g g' : Bool} (ht : elemI C t = some (none, sz, by', g)) (hz : elemZ C t = true) (ht' : elemI C t' = some (none, sz', by'', g'))
    (h : AHeap) (slot : Option Nat) (s x : AVal) : aAppend C h slot t t' s x = appendV h slot sz by' s x := by
  obtain ⟨i, e, ei, h1, h2, h3, rfl, rfl, _⟩ := elem_slice ht
  obtain ⟨i', e', ei', h1', h2', _, _, _, _⟩ := elem_slice ht'
  simp only [elemZ, h1, h2, h3] at hz
  unfold aAppend appendV
  simp only [h1, h1', h2, h2', h3]
  cases hzz : ei.zero with
  | none => simp [hzz] at hz
  | some z =>
    simp only [hzz, decide_eq_true_eq] at hz
    cases srcCells h ei.size x with
    | none => rfl
    | some y =>
      obtain ⟨n, cs⟩ := y
      simp only
      rw [if_pos hz]
      rfl

/-! ### what a value's row of cells is made of -/
theorem newSlice_nil {cells : List AVal} {len sz lo : Nat} {ex : Bool} {h : AHeap} {l : Nat} (hf : freeIdx h (some l) = some l) :
    newSlice h (some l) cells len sz lo ex = some (.ms l 0 len sz lo ex, [(l, .arr cells true)]) := by
  simp [newSlice, hf]

/-! ### values in which no object is named -/
mutual
theorem mapV_id {k : Hd} (hk : k.cn = false) : ∀ {a : AVal}, locs a = [] → mapV k a = some a
  | .sc v, _ => by simp [mapV, hk]
  | .fs cells len cap, _ => by simp [mapV, hk]
  | .fp cells, _ => by simp [mapV]
  | .top, _ => by simp [mapV]
  | .ms .., h => by simp [locs] at h
  | .ptr .., h => by simp [locs] at h
  | .mp _, h => by simp [locs] at h
  | .agg cs, h => by simp only [mapV, mapVL_id hk (as := cs) (by simpa [locs] using h)]
  | .tup cs, h => by simp only [mapV, mapVL_id hk (as := cs) (by simpa [locs] using h)]
  | .ifc t v, h => by simp only [mapV, mapV_id hk (a := v) (by simpa [locs] using h)]
  | .clo fn fi ca, h => by
    simp only [locs, List.append_eq_nil_iff] at h
    simp only [mapV, mapVL_id hk h.1, mapVL_id hk h.2]
theorem mapVL_id {k : Hd} (hk : k.cn = false) : ∀ {as : List AVal}, locsL as = [] → mapVL k as = some as
  | [], _ => rfl
  | a :: as, h => by
    simp only [locsL, List.append_eq_nil_iff] at h
    simp only [mapVL, mapV_id hk h.1, mapVL_id hk h.2]
end

theorem locsL_append : ∀ (a b : List AVal), locsL (a ++ b) = locsL a ++ locsL b
  | [], b => rfl
  | x :: a, b => by simp [locsL, locsL_append a b]

theorem beqTT : (true == true) = true := rfl
theorem beqTF : (true == false) = false := rfl
theorem beqFT : (false == true) = false := rfl
theorem beqFF : (false == false) = true := rfl

/-! ### calls -/
theorem reach_done : ∀ {n : Nat} {h : AHeap} {L : List Nat}, (∀ l, l ∈ L → olocs h l = []) → reach n h L = L
  | 0, _, _, _ => rfl
  | n + 1, h, L, hL => by
    have : L.flatMap (olocs h) = [] := by simp only [List.flatMap_eq_nil_iff]; exact hL
    simp only [reach, this, List.foldl_nil, if_true]

/-- a call whose arguments name no object -/
theorem aCore_nil {call : CallF} {g : FuncId} {args args2 : List AVal} {h : AHeap} (hl : locsL args = []) (hm : mapVL (relocIn true []) args = some args2) :
    aCore call g args h = match call g args2 [] with
      | some (e, sub) => aBack [] h.length sub e
      | none => none := by
  have h1 : nub (locsL args) = [] := by rw [hl]; rfl
  have h2 : reach 8 h [] = [] := reach_done fun l hl => by simp at hl
  unfold aCore
  simp only [h1, h2, List.nodup_nil, List.all_nil, and_self, if_true, hm, subHeap]
  rfl

/-- a call whose arguments name one object, which names none -/
theorem aCore_one {call : CallF} {g : FuncId} {args args2 : List AVal} {h : AHeap} {lo : Nat} {o o2 : AObj} (hl : nub (locsL args) = [lo]) (ho : h[lo]? = some o) (hd : o ≠ .dead) (hn : objLocs o = [])
    (hm : mapVL (relocIn true [lo]) args = some args2) (hm2 : mapObj (relocIn false [lo]) o = some o2) :
    aCore call g args h = match call g args2 [o2] with
      | some (e, sub) => aBack [lo] h.length sub e
      | none => none := by
  have h2 : reach 8 h [lo] = [lo] := reach_done fun l hl => by
    simp only [List.mem_singleton] at hl
    subst hl
    simp only [olocs, ho, hn]
  have hlt : lo < h.length := (List.getElem?_eq_some_iff.1 ho).1
  have hs : subHeap h [lo] [lo] = some [o2] := by
    simp only [subHeap, ho]
    cases o <;> simp_all
  unfold aCore
  simp only [hl, h2, List.nodup_cons, List.not_mem_nil, not_false_eq_true, List.nodup_nil, and_self, List.all_cons, hlt, decide_true, List.all_nil, Bool.and_self, if_true, hm, hs]
  rfl

/-- what a call leaves that makes nothing that stays -/
theorem aBack_nil {n : Nat} {sub : AHeap} {e e' : AEnd} (he : mapEnd (relocOut true [] n false (applyP sub (markP sub (List.range sub.length)))) e = some e') :
    aBack [] n sub e = some (e', []) := by
  unfold aBack
  simp only [List.length_nil, List.drop_zero, he, List.take_zero, mapObjs, List.take_nil, List.zip_nil_right, List.drop_nil, pushes, List.append_nil]

theorem aBack_one {n lo : Nat} {o o2 : AObj} {e e' : AEnd} (he : mapEnd (relocOut true [lo] n false [o]) e = some e') (ho : mapObj (relocOut false [lo] n false [o]) o = some o2) :
    aBack [lo] n [o] e = some (e', [(lo, o2)]) := by
  unfold aBack
  have h1 : (List.range [o].length).drop [lo].length = [] := rfl
  simp only [h1, markP, applyP]
  have h2 : List.take [lo].length [o] = [o] := rfl
  simp only [h2, he, mapObjs, ho]
  rfl

/-- arguments that are passed as they are -/
theorem aInvoke_plain {C : Cfg} {call : CallF} {g : FuncId} {args : List AVal} {h : AHeap} (ha : ∀ a, a ∈ args → locs a = [] ∨ ∃ l o m, a = .ptr l o m) : aInvoke C call g args h = aCore call g args h := by
  have hp : prep C g args h = (args, []) := by
    unfold prep
    split
    · rfl
    · have hf : ∀ (n : Nat) (h' : AHeap) (l o m : Nat), frz n h' (.ptr l o m) = none := fun n h' l o m => by cases n <;> simp [frz, mapV, noHd]
      have h1 : (args.filter fun a => !(locs a).isEmpty && (frz 4 (h.map unW) a).isSome) = [] := by
        rw [List.filter_eq_nil_iff]
        intro a hm
        rcases ha a hm with h0 | ⟨l, o, m, rfl⟩
        · simp [h0]
        · simp [hf]
      have h2 : reach 4 h [] = [] := reach_done fun l hl => by simp at hl
      simp only [h1, List.flatMap_nil, nub, List.foldl_nil, h2, markP]
      congr 1
      have : ∀ a, a ∈ args → (if (locs a).isEmpty = true then a else match frz 4 (applyP h []) a with | some a' => a' | none => a) = a := fun a hm => by
        rcases ha a hm with h0 | ⟨l, o, m, rfl⟩
        · simp [h0]
        · simp [hf]
      exact (List.map_congr_left this).trans (List.map_id _)
  unfold aInvoke
  simp only [hp, applyP]
  cases aCore call g args h with
  | none => rfl
  | some x => rfl

/-! ### loops -/
def loopsOf : Code → List Code
  | .seq a b => loopsOf a ++ loopsOf b
  | .cond _ a b => loopsOf a ++ loopsOf b
  | .block _ b => loopsOf b
  | .loop b => b :: loopsOf b
  | _ => []

def loopB (f : Func) (k : Nat) : Code := ((loopsOf (f.body.getD .skip))[k]?).getD .skip

/-- objects that name no objects -/
theorem mapObj_id {k : Hd} (hk : k.cn = false) {o : AObj} (ho : ∀ es, o ≠ .mp es) (h : objLocs o = []) : mapObj k o = some o := by
  cases o with
  | dead => rfl
  | arr cells w => simp only [mapObj, mapVL_id hk (as := cells) (by simpa [objLocs] using h)]
  | mp es => exact absurd rfl (ho es)

theorem aGc_flat {gi : GcI} {c : Code} {t : List AVal} {h : AHeap} {live L : List Nat} {t' : List AVal} {h' : AHeap} (hl : gi.live (Code.head c) = some live)
    (hL : (locsL (clearT live 0 t)).foldl addN (List.range gi.k) = L) (ho : ∀ l, l ∈ L → olocs h l = []) (hn : L.Nodup ∧ L.take gi.k = List.range gi.k)
    (ht : mapVL (relocIn false L) (clearT live 0 t) = some t') (hs : subHeap h L L = some h') : aGc gi c t h = (t', h') := by
  unfold aGc
  rw [hl]
  simp only [gcSet, hL, reach_done ho, gcTo, if_pos hn, ht, hs, Option.getD_some]

theorem loop_exit {C : Cfg} {call : CallF} {gi : GcI} {n id : Nat} {c : Code} {t t0 t' : List AVal} {h h0 h' : AHeap} (hg : aGc gi c t h = (t0, h0))
    (hb : aCode C call gi n c t0 h0 = some (.exit id, t', h')) : aCode C call gi (n + 1) (.loop c) t h = some (.exit id, t', h') := by
  rw [aCode_loop, hg, hb]

theorem loop_next {C : Cfg} {call : CallF} {gi : GcI} {n : Nat} {c : Code} {t t0 t1 : List AVal} {h h0 h1 : AHeap} (hg : aGc gi c t h = (t0, h0))
    (hb : aCode C call gi n c t0 h0 = some (.normal, t1, h1)) : aCode C call gi (n + 1) (.loop c) t h = aCode C call gi n (.loop c) t1 h1 := by
  rw [aCode_loop, hg, hb]

/-- where a round of a loop leaves the next one -/
def roundTo (gi : GcI) (c : Code) (r : Option (AExit × List AVal × AHeap)) : Option (List AVal × AHeap) := match r with
  | some (.normal, t, h) => some (aGc gi c t h)
  | _ => none

theorem loop_round_to {C : Cfg} {call : CallF} {gi : GcI} {n : Nat} {c : Code} {t t0 t1 : List AVal} {h h0 h1 : AHeap} (hg : aGc gi c t h = (t0, h0))
    (hb : roundTo gi c (aCode C call gi n c t0 h0) = some (t1, h1)) : ∃ t2 h2, aGc gi c t2 h2 = (t1, h1) ∧ aCode C call gi (n + 1) (.loop c) t h = aCode C call gi n (.loop c) t2 h2 := by
  unfold roundTo at hb
  split at hb
  · rename_i t2 h2 he
    simp only [Option.some.injEq] at hb
    exact ⟨t2, h2, hb, loop_next hg he⟩
  · simp at hb

/-! ### what a function made, frozen for its caller -/
/-- a value in its one form, in which no object is named -/
def Fix (a : AVal) : Prop := ∀ k : Hd, k.cn = true → mapV k a = some a
def FixL (as : List AVal) : Prop := ∀ a, a ∈ as → Fix a

theorem fix_int (k : IntKind) (n : Int) : Fix (.sc (.int k n)) := fun _ h => by simp [mapV, canS]
theorem fix_bool (b : Bool) : Fix (.sc (.bool b)) := fun _ h => by simp [mapV, canS]
theorem fix_string (b : ByteArray) : Fix (.sc (.string b)) := fun _ h => by simp [mapV, canS]
theorem fix_fs (cells : List AVal) (n : Nat) : Fix (.fs cells n none) := fun _ h => by simp [mapV]
theorem FixL.nil : FixL [] := fun _ h => by simp at h
theorem FixL.cons {a : AVal} {as : List AVal} (h : Fix a) (hs : FixL as) : FixL (a :: as) := fun x hx => by
  rcases List.mem_cons.1 hx with rfl | hx
  · exact h
  · exact hs x hx
theorem FixL.append {as bs : List AVal} (h : FixL as) (hs : FixL bs) : FixL (as ++ bs) := fun x hx => by
  rcases List.mem_append.1 hx with hx | hx
  · exact h x hx
  · exact hs x hx
theorem FixL.mapVL {k : Hd} (hk : k.cn = true) : ∀ {as : List AVal}, FixL as → mapVL k as = some as
  | [], _ => rfl
  | a :: as, h => by
    rw [Ae.mapVL, h a (by simp) k hk, FixL.mapVL hk (as := as) fun x hx => h x (by simp [hx])]
theorem fix_agg {cs : List AVal} (h : FixL cs) : Fix (.agg cs) := fun k hk => by simp only [mapV, h.mapVL hk]
theorem fix_tup {cs : List AVal} (h : FixL cs) : Fix (.tup cs) := fun k hk => by simp only [mapV, h.mapVL hk]

theorem Fix.frz {a : AVal} (h : Fix a) (n : Nat) (hp : AHeap) : frz n hp a = some a := by
  cases n with
  | zero => exact h _ rfl
  | succ n => exact h _ rfl

theorem FixL.mapM {n : Nat} {hp : AHeap} : ∀ {as : List AVal}, FixL as → as.mapM (Ae.frz n hp) = some as
  | [], _ => rfl
  | a :: as, h => by
    rw [List.mapM_cons, (h a (by simp)).frz, FixL.mapM (as := as) fun x hx => h x (by simp [hx])]
    rfl

/-- the freezing of a slice -/
theorem frz_ms {n : Nat} {hp : AHeap} {l off len sz lo : Nat} {ex : Bool} {cells : List AVal} (hl : hp[l]? = some (.arr cells false)) (hle : off + len * sz ≤ cells.length)
    (hf : FixL ((cells.drop off).take (len * sz))) : frz (n + 1) hp (.ms l off len sz lo ex) = some (.fs ((cells.drop off).take (len * sz)) len none) := by
  simp only [frz, mapV, hl, hle, if_true, hf.mapM]

theorem frz_ms_all {n : Nat} {hp : AHeap} {l len sz lo : Nat} {ex : Bool} {cells : List AVal} (hl : hp[l]? = some (.arr cells false)) (hle : cells.length = len * sz) (hf : FixL cells) :
    frz (n + 1) hp (.ms l 0 len sz lo ex) = some (.fs cells len none) := by
  have ht : (cells.drop 0).take (len * sz) = cells := by rw [List.drop_zero, List.take_of_length_le (by omega)]
  rw [frz_ms hl (by omega) (by rw [ht]; exact hf), ht]

theorem aBack_slice1 {n lo : Nat} {o o2 : AObj} {cells : List AVal} {w : Bool} {len sz l0 : Nat} {ex : Bool} (hl : cells.length = len * sz) (hf : FixL cells)
    (ho : ∀ sub, mapObj (relocOut false [lo] n false sub) o = some o2) : aBack [lo] n [o, .arr cells w] (.ret (.ms 1 0 len sz l0 ex)) = some (.ret (.fs cells len none), [(lo, o2)]) := by
  have h1 : applyP [o, .arr cells w] (markP [o, .arr cells w] ((List.range 2).drop 1)) = [o, .arr cells false] := by
    cases w <;> rfl
  unfold aBack
  have h2 : (List.range [o, AObj.arr cells w].length).drop [lo].length = (List.range 2).drop 1 := rfl
  rw [h2, h1]
  have he : mapEnd (relocOut true [lo] n false [o, .arr cells false]) (.ret (.ms 1 0 len sz l0 ex)) = some (.ret (.fs cells len none)) := by
    simp only [mapEnd, mapV, relocOut, outIdx]
    simp only [List.length_cons, List.length_nil, Nat.reduceAdd, Nat.lt_irrefl, if_false, Bool.false_eq_true]
    rw [frz_ms_all rfl hl hf]
  have hm : mapObjs (relocOut false [lo] n false [o, .arr cells false]) (List.take [lo].length [o, .arr cells false]) = some [o2] := by
    show mapObjs _ [o] = _
    simp only [mapObjs, ho]
  simp only [he, hm]
  rfl

/-! ### heaps whose objects name no objects -/
def Flat (o : AObj) : Prop := ∃ cells w, o = .arr cells w ∧ locsL cells = []
theorem flat_arr {cells : List AVal} (w : Bool) (h : locsL cells = []) : Flat (.arr cells w) := ⟨cells, w, rfl, h⟩

inductive FlatAt (h : AHeap) : List Nat → AHeap → Prop
  | nil : FlatAt h [] []
  | cons {l : Nat} {ls : List Nat} {o : AObj} {os : AHeap} (hl : h[l]? = some o) (hf : Flat o) (hs : FlatAt h ls os) : FlatAt h (l :: ls) (o :: os)

theorem FlatAt.olocs {h : AHeap} : ∀ {ls : List Nat} {os : AHeap}, FlatAt h ls os → ∀ l, l ∈ ls → Ae.olocs h l = []
  | _, _, .nil, l, hl => by simp at hl
  | _, _, .cons hl hf hs, l, hm => by
    rcases List.mem_cons.1 hm with rfl | hm
    · obtain ⟨cells, w, rfl, h0⟩ := hf
      simp only [Ae.olocs, hl, objLocs, h0]
    · exact FlatAt.olocs hs l hm

theorem FlatAt.sub {h : AHeap} {L : List Nat} : ∀ {ls : List Nat} {os : AHeap}, FlatAt h ls os → subHeap h L ls = some os
  | _, _, .nil => rfl
  | _, _, .cons hl hf hs => by
    obtain ⟨cells, w, rfl, h0⟩ := hf
    simp only [subHeap, hl, mapObj, mapVL_id (k := relocIn false L) rfl h0, FlatAt.sub hs]

theorem aGc_at {gi : GcI} {c : Code} {t : List AVal} {h : AHeap} {live L : List Nat} {t' : List AVal} {h' : AHeap} (hl : gi.live (Code.head c) = some live)
    (hL : (locsL (clearT live 0 t)).foldl addN (List.range gi.k) = L) (hn : L.Nodup ∧ L.take gi.k = List.range gi.k)
    (ht : mapVL (relocIn false L) (clearT live 0 t) = some t') (hf : FlatAt h L h') : aGc gi c t h = (t', h') :=
  aGc_flat hl hL hf.olocs hn ht hf.sub

/-! ### drawn regions, run through once -/
def Ent.light (e : Ent) : Ent := { e with v := .top, p := [] }

theorem pairs_light (bef : List Nat) : ∀ (es : List Ent) (i : Nat), pairsOk bef i (es.map Ent.light) = pairsOk bef i es
  | [], _ => rfl
  | e :: es, i => by
    simp only [List.map_cons, pairsOk, pairs_light bef es]
    congr 1
    have : ∀ (l : List Ent) (j : Nat), ((l.map Ent.light).zipIdx j).all (fun y => (bef.getD y.2 0).testBit i || e.light.apart y.1) = (l.zipIdx j).all (fun y => (bef.getD y.2 0).testBit i || e.apart y.1) := by
      intro l
      induction l with
      | nil => intro j; rfl
      | cons x l ih =>
        intro j
        simp only [List.map_cons, List.zipIdx_cons, List.all_cons, ih]
        rfl
    exact this es (i + 1)

def drawEnd (ops : Array Oper) (acc : List Ent) (t : List AVal) (h : AHeap) : Option (AExit × List AVal × AHeap) :=
  if (edgesOk 0 ops.toList && pairsOk (befM ops.toList []) 0 acc.reverse) = true then some (.normal, t, h) else none

def drawK (C : Cfg) (call : CallF) (ops : Array Oper) : List (Oper × Option Nat) → List AVal → AHeap → List Ent → Option (AExit × List AVal × AHeap)
  | [], t, h, acc => drawEnd ops acc t h
  | (o, s) :: rest, t, h, acc =>
    if dstOk t o.dst = true then
      match aWanted ops t o with
      | some false => drawK C call ops rest (aPut t o.dst (.tup [])) h ({ dst := o.dst, looks := o.looksAt ops, rd := [], wr := [], v := .top, p := [] } :: acc)
      | some true => match aStep C call true h s t o with
        | some (.ret v, p) => if p.all (fun x => (foot h s t o).2.contains x.1 && decide (x.1 < h.length)) = true then
            drawK C call ops rest (aPut t o.dst v) (applyP h p) ({ dst := o.dst, looks := o.looksAt ops, rd := (foot h s t o).1, wr := (foot h s t o).2, v := .top, p := [] } :: acc)
          else none
        | _ => none
      | none => none
    else none

theorem drawK_eq {C : Cfg} {call : CallF} {ops : Array Oper} : ∀ (l : List (Oper × Option Nat)) (t : List AVal) (h : AHeap) (acc : List Ent),
    drawK C call ops l t h acc = match drawGo C call ops l t h with
      | some es => drawEnd ops ((es.map Ent.light).reverse ++ acc) (replayT es t) (replayH es h)
      | none => none
  | [], t, h, acc => by simp [drawK, drawGo, replayT, replayH]
  | (o, s) :: rest, t, h, acc => by
    simp only [drawK, drawGo]
    by_cases hd : dstOk t o.dst = true
    · rw [if_pos hd, if_pos hd]
      cases hw : aWanted ops t o with
      | none => rfl
      | some b =>
        cases b with
        | false =>
          simp only []
          rw [drawK_eq rest]
          cases drawGo C call ops rest (aPut t o.dst (.tup [])) h with
          | none => rfl
          | some es => simp [replayT, replayH, applyP, Ent.light]
        | true =>
          simp only []
          cases hst : aStep C call true h s t o with
          | none => rfl
          | some x =>
            obtain ⟨e, p⟩ := x
            cases e with
            | pan v => rfl
            | ret v =>
              simp only []
              by_cases hp : p.all (fun x => (foot h s t o).2.contains x.1 && decide (x.1 < h.length)) = true
              · rw [if_pos hp, if_pos hp, drawK_eq rest]
                cases drawGo C call ops rest (aPut t o.dst v) (applyP h p) with
                | none => rfl
                | some es => simp [replayT, replayH, Ent.light]
              · rw [if_neg hp, if_neg hp]
    · rw [if_neg hd, if_neg hd]

theorem aCode_drawK {C : Cfg} {call : CallF} {gi : GcI} {n id : Nat} {ops : Array Oper} {t : List AVal} {h : AHeap} :
    aCode C call gi (n + 1) (.region id ops true) t h = drawK C call ops (withSlots C h.length ops.toList) t (h ++ List.replicate (nSlots C ops.toList) .dead) [] := by
  rw [aCode_draw, drawK_eq]
  unfold aDraw
  simp only []
  cases drawGo C call ops (withSlots C h.length ops.toList) t (h ++ List.replicate (nSlots C ops.toList) .dead) with
  | none => rfl
  | some es =>
    simp only [drawEnd, List.append_nil, List.reverse_reverse, pairs_light]

theorem drawEnd_ok {ops : Array Oper} {acc : List Ent} {t : List AVal} {h : AHeap} (hc : (edgesOk 0 ops.toList && pairsOk (befM ops.toList []) 0 acc.reverse) = true) :
    drawEnd ops acc t h = some (.normal, t, h) := if_pos hc

section foot
variable {h : AHeap} {s : Option Nat} {t : List AVal} {dst : Option Tmp} {tt : TypeId} {ps : String} {af : Array Edge} {g : Option (Nat × Bool)}
theorem ft_move {x : Operand} : foot h s t ⟨dst, .move x, tt, ps, af, g⟩ = ([], []) := rfl
theorem ft_assign {x : Operand} : foot h s t ⟨dst, .assign x, tt, ps, af, g⟩ = ([], []) := rfl
theorem ft_pick {x y z : Operand} : foot h s t ⟨dst, .pick x y z, tt, ps, af, g⟩ = ([], []) := rfl
theorem ft_binOp {op : BinOp} {ty yt : TypeId} {x y : Operand} : foot h s t ⟨dst, .binOp op ty x y yt, tt, ps, af, g⟩ = ([], []) := rfl
theorem ft_unOp {op : UnOp} {ty : TypeId} {x : Operand} : foot h s t ⟨dst, .unOp op ty x, tt, ps, af, g⟩ = ([], []) := rfl
theorem ft_nilCheck {x : Operand} : foot h s t ⟨dst, .nilCheck x, tt, ps, af, g⟩ = ([], []) := rfl
theorem ft_fieldAddr {ty : TypeId} {x : Operand} {f : Nat} : foot h s t ⟨dst, .fieldAddr ty x f, tt, ps, af, g⟩ = ([], []) := rfl
theorem ft_field {ty : TypeId} {x : Operand} {f : Nat} : foot h s t ⟨dst, .field ty x f, tt, ps, af, g⟩ = ([], []) := rfl
theorem ft_indexAddr {ty : TypeId} {x y : Operand} : foot h s t ⟨dst, .indexAddr ty x y, tt, ps, af, g⟩ = ([], []) := rfl
theorem ft_index {ty : TypeId} {x y : Operand} : foot h s t ⟨dst, .index ty x y, tt, ps, af, g⟩ = ([], []) := rfl
theorem ft_slice {ty : TypeId} {x : Operand} {a b c : Option Operand} : foot h s t ⟨dst, .slice ty x a b c, tt, ps, af, g⟩ = ([], []) := rfl
theorem ft_build {ty : TypeId} {x : Array (Nat × Operand)} : foot h s t ⟨dst, .build ty x, tt, ps, af, g⟩ = ([], []) := rfl
theorem ft_extract {x : Operand} {i : Nat} : foot h s t ⟨dst, .extract x i, tt, ps, af, g⟩ = ([], []) := rfl
theorem ft_makeFunc {f : Fn} {a b : Array Operand} : foot h s t ⟨dst, .makeFunc f a b, tt, ps, af, g⟩ = ([], []) := rfl
theorem ft_makeInterface {ty : TypeId} {x : Operand} : foot h s t ⟨dst, .makeInterface ty x, tt, ps, af, g⟩ = ([], []) := rfl
theorem ft_len {a : Array Operand} {b : Array TypeId} : foot h s t ⟨dst, .call { callee := .builtin .len, args := a, argTypes := b }, tt, ps, af, g⟩ = ([], []) := rfl
theorem ft_load {ty : TypeId} {x : Operand} : foot h s t ⟨dst, .load ty x, tt, ps, af, g⟩ = (locs (aEval t x), []) := rfl
theorem ft_store {ty : TypeId} {x y : Operand} : foot h s t ⟨dst, .store ty x y, tt, ps, af, g⟩ = ([], locs (aEval t x)) := rfl
theorem ft_convert {a b : TypeId} {x : Operand} : foot h s t ⟨dst, .convert a b x, tt, ps, af, g⟩ = (locs (aEval t x), s.toList) := rfl
theorem ft_alloc {ty : TypeId} : foot h s t ⟨dst, .alloc ty, tt, ps, af, g⟩ = ([], s.toList) := rfl
theorem ft_box {ty : TypeId} {x : Operand} : foot h s t ⟨dst, .box ty x, tt, ps, af, g⟩ = ([], s.toList) := rfl
theorem ft_buildSlice {ty : TypeId} {n : Nat} {x : Array (Nat × Operand)} : foot h s t ⟨dst, .buildSlice ty n x, tt, ps, af, g⟩ = ([], s.toList) := rfl
theorem ft_makeSlice {ty : TypeId} {x y : Operand} : foot h s t ⟨dst, .makeSlice ty x y, tt, ps, af, g⟩ = ([], s.toList) := rfl
theorem ft_append {x y : Operand} {b : Array TypeId} : foot h s t ⟨dst, .call { callee := .builtin .append, args := ⟨[x, y]⟩, argTypes := b }, tt, ps, af, g⟩ = ([], locs (aEval t x) ++ (locs (aEval t y) ++ s.toList)) := by
  simp [foot]
theorem ft_call {f : FuncId} {as : Array Operand} {ty : Array TypeId} : foot h s t ⟨dst, .call { callee := .value (.func f), args := as, argTypes := ty }, tt, ps, af, g⟩ =
    ([], reach 8 h (nub (locsL (as.toList.map (aEval t))))) := by
  simp only [foot, aEval, List.nil_append, List.append_nil]
end foot

section kinds
variable {C : Cfg}
theorem ak_move {x : Operand} : allocKind C (.move x) = false := rfl
theorem ak_assign {x : Operand} : allocKind C (.assign x) = false := rfl
theorem ak_pick {x y z : Operand} : allocKind C (.pick x y z) = false := rfl
theorem ak_binOp {op : BinOp} {ty yt : TypeId} {x y : Operand} : allocKind C (.binOp op ty x y yt) = false := rfl
theorem ak_unOp {op : UnOp} {ty : TypeId} {x : Operand} : allocKind C (.unOp op ty x) = false := rfl
theorem ak_nilCheck {x : Operand} : allocKind C (.nilCheck x) = false := rfl
theorem ak_fieldAddr {ty : TypeId} {x : Operand} {f : Nat} : allocKind C (.fieldAddr ty x f) = false := rfl
theorem ak_field {ty : TypeId} {x : Operand} {f : Nat} : allocKind C (.field ty x f) = false := rfl
theorem ak_indexAddr {ty : TypeId} {x y : Operand} : allocKind C (.indexAddr ty x y) = false := rfl
theorem ak_index {ty : TypeId} {x y : Operand} : allocKind C (.index ty x y) = false := rfl
theorem ak_slice {ty : TypeId} {x : Operand} {a b c : Option Operand} : allocKind C (.slice ty x a b c) = false := rfl
theorem ak_build {ty : TypeId} {x : Array (Nat × Operand)} : allocKind C (.build ty x) = false := rfl
theorem ak_extract {x : Operand} {i : Nat} : allocKind C (.extract x i) = false := rfl
theorem ak_makeFunc {f : Fn} {a b : Array Operand} : allocKind C (.makeFunc f a b) = false := rfl
theorem ak_makeInterface {ty : TypeId} {x : Operand} : allocKind C (.makeInterface ty x) = false := rfl
theorem ak_len {a : Array Operand} {b : Array TypeId} : allocKind C (.call { callee := .builtin .len, args := a, argTypes := b }) = false := rfl
theorem ak_load {ty : TypeId} {x : Operand} : allocKind C (.load ty x) = false := rfl
theorem ak_store {ty : TypeId} {x y : Operand} : allocKind C (.store ty x y) = false := rfl
theorem ak_call {f : FuncId} {as : Array Operand} {ty : Array TypeId} : allocKind C (.call { callee := .value (.func f), args := as, argTypes := ty }) = false := rfl
theorem ak_alloc {ty : TypeId} : allocKind C (.alloc ty) = true := rfl
theorem ak_box {ty : TypeId} {x : Operand} : allocKind C (.box ty x) = true := rfl
theorem ak_buildSlice {ty : TypeId} {n : Nat} {x : Array (Nat × Operand)} : allocKind C (.buildSlice ty n x) = true := rfl
theorem ak_makeSlice {ty : TypeId} {x y : Operand} : allocKind C (.makeSlice ty x y) = true := rfl
theorem ak_append {a : Array Operand} {b : Array TypeId} : allocKind C (.call { callee := .builtin .append, args := a, argTypes := b }) = true := rfl
end kinds

section rules
variable {C : Cfg} {call : CallF} {ops : Array Oper} {t : List AVal} {h : AHeap}
theorem aOps_n : aOps C call ops [] t h = some (.normal, t, h) := rfl
theorem aOps_c {o : Oper} {rest : List Oper} : aOps C call ops (o :: rest) t h = match aWanted ops t o with
    | some false => aOps C call ops rest (aPut t o.dst (.tup [])) h
    | some true => match aStep C call false h (some (firstDead h)) t o with
      | some (.ret v, p) => aOps C call ops rest (aPut t o.dst v) (applyP h p)
      | some (.pan v, p) => some (.panic v, t, applyP h p)
      | none => none
    | none => none := rfl
theorem drawK_n {acc : List Ent} : drawK C call ops [] t h acc = drawEnd ops acc t h := rfl
theorem drawK_c {o : Oper} {s : Option Nat} {rest : List (Oper × Option Nat)} {acc : List Ent} : drawK C call ops ((o, s) :: rest) t h acc =
    if dstOk t o.dst = true then
      match aWanted ops t o with
      | some false => drawK C call ops rest (aPut t o.dst (.tup [])) h ({ dst := o.dst, looks := o.looksAt ops, rd := [], wr := [], v := .top, p := [] } :: acc)
      | some true => match aStep C call true h s t o with
        | some (.ret v, p) => if p.all (fun x => (foot h s t o).2.contains x.1 && decide (x.1 < h.length)) = true then
            drawK C call ops rest (aPut t o.dst v) (applyP h p) ({ dst := o.dst, looks := o.looksAt ops, rd := (foot h s t o).1, wr := (foot h s t o).2, v := .top, p := [] } :: acc)
          else none
        | _ => none
      | none => none
    else none := rfl
theorem aPut_some {d : Nat} {v : AVal} : aPut t (some d) v = t.set d v := rfl
theorem aPut_none {v : AVal} : aPut t none v = t := rfl
theorem applyP_nil : applyP h [] = h := rfl
theorem applyP_cons {l : Nat} {o : AObj} {p : Patch} : applyP h ((l, o) :: p) = applyP (if l < h.length then h.set l o else h ++ [o]) p := rfl
end rules

end Go.Proofs.Ae

/-
  Parts of values, composite values, new slices.
-/
import Derived.Test.YtjfdjendaagccaaAe5
namespace Go.Proofs.Ae
open Go

def aPart (C : Cfg) (t : TypeId) (cs : List AVal) (off : Nat) : Option AVal :=
  match C.ty t with
  | some i => if i.isAgg then some (.agg ((cs.drop off).take i.size)) else cs[off]?
  | none => none

theorem run_part {C : Cfg} (ok : C.Ok) {E : Env} {t : TypeId} {cs : List AVal} {vs : Array Value} {off : Nat} {r : AVal} (hr : aPart C t cs off = some r) (hv : RvL E cs vs.toList)
    (w : World) : ∃ y, (part t vs off).run C.P w = .ok y w ∧ Rv E r y := by
  unfold aPart at hr
  split at hr
  · rename_i i hi
    simp only [part, Sem.run_bind, run_isAgg ok hi w, Result.andThen_ok]
    split at hr
    · rename_i ha
      simp only [Option.some.injEq] at hr
      subst hr
      simp only [ha, if_true, Sem.run_bind, run_sizeOf ok hi w, Result.andThen_ok]
      refine ⟨_, rfl, .agg _ _ ?_⟩
      have : (vs.extract off (off + i.size)).toList = (vs.toList.drop off).take i.size := by simp [List.extract_eq_take_drop]
      rw [this]
      exact (hv.drop _).take _
    · rename_i ha
      obtain ⟨v, h1, h2⟩ := hv.get off r hr
      refine ⟨v, ?_, h2⟩
      have h1' : vs[off]? = some v := by simpa using h1
      simp [ha, h1']
  · simp at hr

def aField (C : Cfg) (t : TypeId) (x : AVal) (f : Nat) : Option AVal :=
  match C.ty t, x with
  | some i, .agg cs => match i.desc with
    | .struct fields => match fields[f]? with
      | some fd => aPart C fd.type cs fd.offset
      | none => none
    | _ => none
  | _, _ => none

theorem run_field {C : Cfg} (ok : C.Ok) {E : Env} {t : TypeId} {x r : AVal} {f : Nat} {v : Value} (hr : aField C t x f = some r) (hx : Rv E x v) (w : World) :
    ∃ y, (Instr.field t v f).run C.P w = .ok y w ∧ Rv E r y := by
  unfold aField at hr
  split at hr
  · rename_i i cs hi
    split at hr
    · rename_i fields hd
      have hu : (underlying t).run C.P w = .ok (.struct fields) w := by rw [← hd]; exact run_underlying ok hi w
      split at hr
      · rename_i fd hfd
        cases hx with
        | agg _ vs hv =>
          obtain ⟨y, h1, h2⟩ := run_part ok hr hv w
          exact ⟨y, by simp [Instr.field, hu, hfd, asAgg, h1], h2⟩
      · simp at hr
    · simp at hr
  · simp at hr

def aIndex (C : Cfg) (t : TypeId) (x ix : AVal) : Option AVal :=
  match C.ty t, x, ix with
  | some i, .agg cs, .sc (.int _ n) => match i.desc with
    | .array len elem => match C.ty elem with
      | some ei => if 0 ≤ n ∧ n < len then aPart C elem cs (n.toNat * ei.size) else none
      | none => none
    | _ => none
  | _, _, _ => none

theorem run_index {C : Cfg} (ok : C.Ok) {E : Env} {t : TypeId} {x ix r : AVal} {v u : Value} (hr : aIndex C t x ix = some r) (hx : Rv E x v) (hi : Rv E ix u) (w : World) :
    ∃ y, (Instr.index t v u).run C.P w = .ok y w ∧ Rv E r y := by
  unfold aIndex at hr
  split at hr
  · rename_i i cs k n hti
    cases hi
    split at hr
    · rename_i len elem hd
      have hu : (underlying t).run C.P w = .ok (.array len elem) w := by rw [← hd]; exact run_underlying ok hti w
      split at hr
      · rename_i ei hei
        split at hr
        · rename_i hb
          cases hx with
          | agg _ vs hv =>
            obtain ⟨y, h1, h2⟩ := run_part ok hr hv w
            exact ⟨y, by simp [Instr.index, asIntOf, hu, hb, run_sizeOf ok hei w, h1], h2⟩
        · simp at hr
      · simp at hr
    · simp at hr
  · simp at hr

/-! ### composite values -/
def aFill (place : Nat → Option (Nat × Nat)) (cells : List AVal) : List (Nat × AVal) → Option (List AVal)
  | [] => some cells
  | (i, v) :: rest => match place i with
    | none => none
    | some (off, size) => if v.known = true ∧ v.cells.length = size ∧ off + size ≤ cells.length then aFill place (cells.take off ++ v.cells ++ cells.drop (off + size)) rest else none

theorem foldl_put (off : Nat) : ∀ (l : List Value) (k : Nat) (cs : Array Value), off + k + l.length ≤ cs.size →
    (l.zipIdx k).foldl (fun cs (x : Value × Nat) => cs.setIfInBounds (off + x.2) x.1) cs = put cs (off + k) l
  | [], k, cs, _ => by simp [put_nil]
  | v :: l, k, cs, h => by
    simp only [List.length_cons] at h
    simp only [List.zipIdx_cons, List.foldl_cons]
    rw [foldl_put off l (k + 1) _ (by simp; omega), show off + (k + 1) = off + k + 1 by omega, put_cons (by omega)]

inductive RvP (E : Env) : List (Nat × AVal) → List (Nat × Value) → Prop
  | nil : RvP E [] []
  | cons {i : Nat} {a : AVal} {v : Value} {as : List (Nat × AVal)} {vs : List (Nat × Value)} (h : Rv E a v) (hs : RvP E as vs) : RvP E ((i, a) :: as) ((i, v) :: vs)

theorem fill_rel {E : Env} (place : Nat → Option (Nat × Nat)) : ∀ {parts : List (Nat × AVal)} {vparts : List (Nat × Value)} {cells r : List AVal} {cs : Array Value},
    RvP E parts vparts → aFill place cells parts = some r → RvL E cells cs.toList → ∃ cs', Instr.fill place cs vparts = some cs' ∧ RvL E r cs'.toList
  | _, _, cells, r, cs, .nil, hr, hc => by
    simp only [aFill, Option.some.injEq] at hr
    subst hr
    exact ⟨cs, rfl, hc⟩
  | _, _, cells, r, cs, .cons (i := i) (a := a) (v := v) h hs, hr, hc => by
    simp only [aFill] at hr
    split at hr
    · simp at hr
    · rename_i off size hp
      split at hr
      · rename_i hb
        obtain ⟨h0, h1, h2⟩ := hb
        have hvc := h.cells h0
        have hvl := hvc.length
        have hcl := hc.length
        have hl1 : v.cells.size = size := by simp at hvl; omega
        have hl2 : off + v.cells.size ≤ cs.size := by simp at hcl; omega
        have hput : (v.cells.zipIdx.foldl (fun cs (c, j) => cs.setIfInBounds (off + j) c) cs) = put cs off v.cells.toList := by
          have := foldl_put off v.cells.toList 0 cs (by simp; omega)
          rw [Nat.add_zero] at this
          rw [← this, ← Array.foldl_toList, Array.toList_zipIdx]
        have hrel : RvL E (cells.take off ++ a.cells ++ cells.drop (off + size)) (put cs off v.cells.toList).toList := by
          have := ((hc.take off).append hvc).append (hc.drop (off + size))
          rw [← h1, hvl] at this ⊢
          exact this
        obtain ⟨cs', k1, k2⟩ := fill_rel place hs hr hrel
        refine ⟨cs', ?_, k2⟩
        have hn : ¬ (cs.size < off + v.cells.size) := by omega
        simp only [Instr.fill, hp, hput]
        simp [hl1, k1]
        omega
      · simp at hr

def structPlace (C : Cfg) (fields : Array Field) (j : Nat) : Option (Nat × Nat) :=
  match fields[j]? with
  | some f => match C.ty f.type with
    | some i => some (f.offset, i.size)
    | none => none
  | none => none

def aBuild (C : Cfg) (t : TypeId) (parts : List (Nat × AVal)) : Option AVal :=
  match C.ty t with
  | some i => match i.zero with
    | some z => match i.desc with
      | .struct fields =>
        if fields.toList.all (fun f => (C.ty f.type).isSome) = true then
          match aFill (structPlace C fields) (z.cells.toList.map .sc) parts with
          | some cs => some (.agg cs)
          | none => none
        else none
      | .array _ elem => match C.ty elem with
        | some ei => match aFill (fun j => some (j * ei.size, ei.size)) (z.cells.toList.map .sc) parts with
          | some cs => some (.agg cs)
          | none => none
        | none => none
      | _ => none
    | none => none
  | none => none

theorem run_mapM_list {P : Program} {w : World} {α β : Type} (f : α → Sem β) (g : α → β) : ∀ (l : List α), (∀ x, x ∈ l → (f x).run P w = .ok (g x) w) →
    (l.mapM f).run P w = .ok (l.map g) w
  | [], _ => by simp
  | x :: l, h => by
    simp [List.mapM_cons, h x List.mem_cons_self, run_mapM_list f g l (fun y hy => h y (List.mem_cons_of_mem _ hy))]

theorem run_mapM {P : Program} {w : World} {α β : Type} (f : α → Sem β) (g : α → β) (xs : Array α) (h : ∀ x, x ∈ xs.toList → (f x).run P w = .ok (g x) w) :
    (xs.mapM f).run P w = .ok (xs.map g) w := by
  rw [Array.mapM_eq_mapM_toList]
  simp only [Sem.run_map, run_mapM_list f g xs.toList h, Result.andThen_ok]
  congr 1
  apply Array.ext'; simp

theorem run_build {C : Cfg} (ok : C.Ok) {E : Env} {t : TypeId} {parts : List (Nat × AVal)} {vparts : Array (Nat × Value)} {r : AVal} (hr : aBuild C t parts = some r)
    (hp : RvP E parts vparts.toList) (w : World) : ∃ y, (Instr.build t vparts).run C.P w = .ok y w ∧ Rv E r y := by
  unfold aBuild at hr
  split at hr
  · rename_i i hi
    split at hr
    · rename_i z hz
      have hzr := run_zeroValue ok hi w hz
      split at hr
      · rename_i fields hd
        have hu : (underlying t).run C.P w = .ok (.struct fields) w := by rw [← hd]; exact run_underlying ok hi w
        split at hr
        · rename_i hall
          split at hr
          · rename_i cs hcs
            simp only [Option.some.injEq] at hr
            subst hr
            obtain ⟨cs', k1, k2⟩ := fill_rel _ hp hcs (RvL.map_sc (z.cells.toList))
            refine ⟨.agg cs', ?_, .agg _ _ k2⟩
            have hm := run_mapM (P := C.P) (w := w) (fun f : Field => do pure (f.offset, ← sizeOf f.type)) (fun f => (f.offset, ((C.ty f.type).map (·.size)).getD 0)) fields (by
              intro f hf
              have := List.all_eq_true.1 hall f hf
              obtain ⟨fi, hfi⟩ := Option.isSome_iff_exists.1 this
              simp [run_sizeOf ok hfi w, hfi])
            have hpl : (fun j => (fields.map fun f => (f.offset, ((C.ty f.type).map (·.size)).getD 0))[j]?) = structPlace C fields := by
              funext j
              simp only [Array.getElem?_map, structPlace]
              cases hfj : fields[j]? with
              | none => simp
              | some f =>
                have hmem : f ∈ fields.toList := by
                  have := Array.mem_of_getElem? hfj
                  simpa using this
                obtain ⟨fi, hfi⟩ := Option.isSome_iff_exists.1 (List.all_eq_true.1 hall f hmem)
                simp [hfi]
            simp only [Instr.build, Sem.run_bind, hzr, Result.andThen_ok, hu, hm, hpl, k1]
            rfl
          · simp at hr
        · simp at hr
      · rename_i n elem hd
        have hu : (underlying t).run C.P w = .ok (.array n elem) w := by rw [← hd]; exact run_underlying ok hi w
        split at hr
        · rename_i ei hei
          split at hr
          · rename_i cs hcs
            simp only [Option.some.injEq] at hr
            subst hr
            obtain ⟨cs', k1, k2⟩ := fill_rel _ hp hcs (RvL.map_sc (z.cells.toList))
            refine ⟨.agg cs', ?_, .agg _ _ k2⟩
            simp only [Instr.build, Sem.run_bind, hzr, Result.andThen_ok, hu, run_sizeOf ok hei w, k1]
            rfl
          · simp at hr
        · simp at hr
      · simp at hr
    · simp at hr
  · simp at hr

/-! ### new slices -/
/-- n zero cells, as the model lays them -/
def zeros (z : Value) (n : Nat) : List AVal := (List.range n).map fun k => .sc (z.cells[k % z.cells.size]!)

def newSlice (h : AHeap) (slot : Option Nat) (cells : List AVal) (len sz lo : Nat) (ex : Bool) : Option (AVal × Patch) :=
  match freeIdx h slot with
  | some l => some (.ms l 0 len sz lo ex, [(l, .arr cells true)])
  | none => none

theorem sound_newSlice {C : Cfg} {E : Env} {h : AHeap} {w w0 : World} (g : Good E h w0.heap) {slot : Option Nat} {cells : List AVal} {c : Array Value} {r : AVal} {p : Patch}
    {e : TypeId} {len sz lo cap : Nat} {ex : Bool} {fr : Nat × Nat} {w' : World} {s : Sem Value}
    (hr : newSlice h slot cells len sz lo ex = some (r, p)) (hle : cells.length ≤ c.size) (hrel : RvL E cells (c.toList.take cells.length)) (hfr : FrOk fr c.size)
    (hn : len * sz ≤ cells.length) (hc : cap * sz ≤ c.size) (hl : len ≤ lo) (hlo : lo ≤ cap) (hex : ex = true → cap = lo)
    (hrun : s.run C.P w = .ok (.slice (some ⟨w0.heap.size, 0, none⟩) len cap) w') (hh : w0.heap = w.heap) (hw : w'.heap = w0.heap.push (.cells c e fr)) (hs : WSame w w') :
    Sound C.P (fun E v => Rv E r v) s E h w (applyP h p) := by
  unfold newSlice at hr
  split at hr
  · rename_i l hf
    simp only [Option.some.injEq, Prod.mk.injEq] at hr
    obtain ⟨rfl, rfl⟩ := hr
    rw [hh] at g hw hrun
    obtain ⟨E', le, hm, hg, hx⟩ := sound_new (T := e) (fr := fr) (w := w) (w' := w') g hf hle hrel hfr hw hs
    exact ⟨_, w', E', hrun, .ms _ _ _ _ _ _ _ _ _ _ hm (by omega) (by omega) hl hlo hex, hg, hx, hs⟩
  · simp at hr

def aBuildSlice (C : Cfg) (h : AHeap) (slot : Option Nat) (t : TypeId) (len : Nat) (parts : List (Nat × AVal)) : Option (AVal × Patch) :=
  match C.ty t with
  | some i => match i.desc with
    | .slice elem => match C.ty elem with
      | some ei => match ei.zero with
        | some z =>
          if len * ei.size ≤ 2 ^ 24 then
            match aFill (fun j => some (j * ei.size, ei.size)) (zeros z (len * ei.size)) parts with
            | some cs => if cs.length = len * ei.size then newSlice h slot cs len ei.size len true else none
            | none => none
          else none
        | none => none
      | none => none
    | _ => none
  | none => none

theorem zeros_rel {E : Env} (z : Value) (n : Nat) : RvL E (zeros z n) ((Array.range n).map (z.cells[· % z.cells.size]!)).toList := by
  have : ((Array.range n).map (z.cells[· % z.cells.size]!)).toList = (List.range n).map fun k => z.cells[k % z.cells.size]! := by simp
  rw [this]
  unfold zeros
  have := RvL.map_sc (E := E) ((List.range n).map fun k => z.cells[k % z.cells.size]!)
  rwa [List.map_map] at this

theorem sound_buildSlice {C : Cfg} (ok : C.Ok) {E : Env} {h : AHeap} {w : World} (g : Good E h w.heap) {slot : Option Nat} {t : TypeId} {len : Nat} {parts : List (Nat × AVal)}
    {vparts : Array (Nat × Value)} {r : AVal} {p : Patch} (hr : aBuildSlice C h slot t len parts = some (r, p)) (hp : RvP E parts vparts.toList) :
    Sound C.P (fun E v => Rv E r v) (Instr.buildSlice t len vparts) E h w (applyP h p) := by
  unfold aBuildSlice at hr
  split at hr
  · rename_i i hi
    split at hr
    · rename_i elem hd
      have hu : (underlying t).run C.P w = .ok (.slice elem) w := by rw [← hd]; exact run_underlying ok hi w
      split at hr
      · rename_i ei hei
        split at hr
        · rename_i z hz
          split at hr
          · rename_i hlim
            split at hr
            · rename_i cs hcs
              split at hr
              · rename_i hlen
                have hzr := run_zeroValue ok hei w hz
                have hsz : ¬ (2 ^ 24 < len * ei.size) := by omega
                have hzero : ∃ z0 : Array Value, (∀ k : Array Value → Sem Value, (if len * ei.size = 0 then (do let zero ← pure #[]; k zero) else (do let x ← zeroValue elem; let zero ← pure x.cells; k zero) : Sem Value).run C.P w = (k z0).run C.P w) ∧
                    RvL E (zeros z (len * ei.size)) ((Array.range (len * ei.size)).map (z0[· % z0.size]!)).toList := by
                  by_cases h0 : len * ei.size = 0
                  · refine ⟨#[], fun k => by simp [h0], ?_⟩
                    rw [h0]; simp [zeros]; exact .nil
                  · exact ⟨z.cells, fun k => by simp [h0, hzr], zeros_rel z _⟩
                obtain ⟨z0, k1, k2⟩ := hzero
                obtain ⟨cs', k3, k4⟩ := fill_rel _ hp hcs k2
                have hcl := k4.length
                have hcl' : cs.length = cs'.size := by simpa using hcl
                refine sound_newSlice (w0 := w) (c := cs') (cap := len) (e := elem) (fr := (0, 0)) (w' := { w with heap := w.heap.push (.cells cs' elem (0, 0)) }) g hr (by omega)
                  (by rw [List.take_of_length_le (by simp; omega)]; exact k4) (fun i _ hh => by simp at hh) (by omega) (by omega) (Nat.le_refl _) (Nat.le_refl _) (fun _ => rfl) ?_ rfl rfl ⟨rfl, rfl, rfl⟩
                simp only [Instr.buildSlice, Sem.run_bind, hu, Result.andThen_ok, run_sizeOf ok hei w]
                rw [if_neg hsz]
                rw [k1]
                simp only [k3]
                simp [newRow, newObj, Sem.run]
              · simp at hr
            · simp at hr
          · simp at hr
        · simp at hr
      · simp at hr
    · simp at hr
  · simp at hr

end Go.Proofs.Ae

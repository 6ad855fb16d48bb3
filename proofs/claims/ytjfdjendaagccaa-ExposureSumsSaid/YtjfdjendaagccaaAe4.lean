/-
  The abstract operations on memory, each with the run of the model's operation that it stands for.
-/
import Derived.Test.YtjfdjendaagccaaAe3
namespace Go.Proofs.Ae
open Go

abbrev Patch := List (Nat × AObj)

def applyP : AHeap → Patch → AHeap
  | h, [] => h
  | h, (l, o) :: p => applyP (if l < h.length then h.set l o else h ++ [o]) p

/-- the first place of a heap that is not taken -/
def firstDead : AHeap → Nat
  | [] => 0
  | .dead :: _ => 0
  | _ :: h => firstDead h + 1

def freeIdx (h : AHeap) (slot : Option Nat) : Option Nat :=
  match slot with
  | none => none
  | some s => match h[s]? with
    | some .dead => some s
    | some _ => none
    | none => if s = h.length then some s else none

theorem freeIdx_spec {h : AHeap} {slot : Option Nat} {l : Nat} (hf : freeIdx h slot = some l) (o : AObj) :
    (applyP h [(l, o)])[l]? = some o ∧ (∀ k, k ≠ l → (applyP h [(l, o)])[k]? = h[k]?) ∧ ¬ Live h l ∧ h.length ≤ (applyP h [(l, o)]).length := by
  cases slot with
  | none => simp [freeIdx] at hf
  | some s =>
    simp only [freeIdx] at hf
    split at hf
    · rename_i hs
      simp only [Option.some.injEq] at hf
      subst hf
      have hlt := (List.getElem?_eq_some_iff.1 hs).1
      simp only [applyP, hlt, if_true]
      refine ⟨by simp [hlt], fun k hk => by rw [List.getElem?_set_ne (Ne.symm hk)], fun ⟨x, h1, h2⟩ => ?_, by simp⟩
      rw [hs] at h1
      exact h2 (by simpa using h1.symm)
    · simp at hf
    · split at hf
      · rename_i hl
        simp only [Option.some.injEq] at hf
        subst hf
        subst hl
        simp only [applyP, Nat.lt_irrefl, if_false]
        refine ⟨by simp, fun k hk => ?_, fun ⟨x, h1, _⟩ => by simp at h1, by simp⟩
        rcases Nat.lt_or_gt_of_ne hk with h1 | h1
        · rw [List.getElem?_append_left h1]
        · rw [List.getElem?_eq_none (by simp; omega), List.getElem?_eq_none (by omega)]
      · simp at hf

theorem applyP_live {h : AHeap} {l : Nat} (hl : Live h l) (o : AObj) : applyP h [(l, o)] = h.set l o := by
  obtain ⟨_, h1, _⟩ := hl
  have : l < h.length := (List.getElem?_eq_some_iff.1 h1).1
  simp [applyP, this]

/-- a new block that holds these cells (and room behind them) -/
theorem sound_new {E : Env} {h : AHeap} {w w' : World} (g : Good E h w.heap) {slot : Option Nat} {l : Nat} (hf : freeIdx h slot = some l) {cells : List AVal} {c : Array Value}
    {T : TypeId} {fr : Nat × Nat} (hle : cells.length ≤ c.size) (hrel : RvL E cells (c.toList.take cells.length)) (hfr : FrOk fr c.size)
    (hw : w'.heap = w.heap.push (.cells c T fr)) (hs : WSame w w') :
    ∃ E', E.Le E' ∧ (w.heap.size, cells.length, c.size) ∈ E'.rho l ∧ Good E' (applyP h [(l, .arr cells true)]) w'.heap ∧ Ext E h w.heap E' (applyP h [(l, .arr cells true)]) w'.heap := by
  obtain ⟨h1, h2, h3, h4⟩ := freeIdx_spec hf (.arr cells true)
  obtain ⟨E', le, _, _, _, hr, hg, hx⟩ := good_new (T := T) g h1 h2 h3 h4 hle hrel hfr
  exact ⟨E', le, by rw [hr]; exact .head _, by rw [hw]; exact hg, by rw [hw]; exact hx⟩

/-! ### alloc, box -/
def aNew (h : AHeap) (slot : Option Nat) (cells : List AVal) : Option (AVal × Patch) :=
  match freeIdx h slot with
  | some l => some (.ptr l 0 cells.length, [(l, .arr cells true)])
  | none => none

theorem sound_newVar {C : Cfg} {E : Env} {h : AHeap} {w : World} (g : Good E h w.heap) {slot : Option Nat} {cells : List AVal} {v : Value} {r : AVal} {p : Patch} (t : TypeId)
    (hr : aNew h slot cells = some (r, p)) (hrel : RvL E cells v.cells.toList) :
    Sound C.P (fun E v => Rv E r v) (do pure (.pointer (some (← newVar t v)))) E h w (applyP h p) := by
  unfold aNew at hr
  split at hr
  · rename_i l hf
    simp only [Option.some.injEq, Prod.mk.injEq] at hr
    obtain ⟨rfl, rfl⟩ := hr
    have hlen : cells.length = v.cells.size := by simpa using hrel.length
    let w' : World := { w with heap := w.heap.push (.cells v.cells t (0, 0)) }
    obtain ⟨E', le, hm, hg, hx⟩ := sound_new (w' := w') (T := t) (fr := (0, 0)) g hf (cells := cells) (c := v.cells) (by omega) (by rw [List.take_of_length_le (by simp; omega)]; exact hrel)
      (fun i _ hh => by simp at hh) rfl ⟨rfl, rfl, rfl⟩
    refine ⟨.pointer (some ⟨w.heap.size, 0, none⟩), w', E', ?_, ?_, hg, hx, rfl, rfl, rfl⟩
    · simp [newVar, newRow, newObj, Sem.run, w']
    · exact .ptr _ _ _ _ _ _ hm (Nat.le_refl _)
  · simp at hr

def aAlloc (C : Cfg) (h : AHeap) (slot : Option Nat) (elem : TypeId) : Option (AVal × Patch) :=
  match C.ty elem with
  | some i => match i.zero with
    | some z => aNew h slot (z.cells.toList.map .sc)
    | none => none
  | none => none

theorem sound_alloc {C : Cfg} (ok : C.Ok) {E : Env} {h : AHeap} {w : World} (g : Good E h w.heap) {slot : Option Nat} {elem : TypeId} {r : AVal} {p : Patch}
    (hr : aAlloc C h slot elem = some (r, p)) : Sound C.P (fun E v => Rv E r v) (Instr.alloc elem true (.tuple #[])) E h w (applyP h p) := by
  unfold aAlloc at hr
  split at hr
  · rename_i i hi
    split at hr
    · rename_i z hz
      obtain ⟨v, w', E', h1, h2⟩ := sound_newVar (C := C) (v := z) g elem hr (RvL.map_sc _)
      refine ⟨v, w', E', ?_, h2⟩
      simp only [Instr.alloc, Sem.run_bind, run_zeroValue ok hi w hz, Result.andThen_ok]
      exact h1
    · simp at hr
  · simp at hr

def aBox (h : AHeap) (slot : Option Nat) (x : AVal) : Option (AVal × Patch) := if x.known = true then aNew h slot x.cells else none

theorem sound_box {C : Cfg} {E : Env} {h : AHeap} {w : World} (g : Good E h w.heap) {slot : Option Nat} {elem : TypeId} {x r : AVal} {v : Value} {p : Patch}
    (hr : aBox h slot x = some (r, p)) (hx : Rv E x v) : Sound C.P (fun E v => Rv E r v) (Instr.box elem v) E h w (applyP h p) := by
  unfold aBox at hr
  split at hr
  · rename_i hk
    exact sound_newVar g elem hr (hx.cells hk)
  · simp at hr

/-! ### load, store -/
def mkVar (i : TyI) (cs : List AVal) : Option AVal :=
  if i.isAgg then some (.agg cs) else match cs with
    | [v] => some v
    | _ => none

def aLoad (C : Cfg) (h : AHeap) (t : TypeId) (a : AVal) : Option AVal :=
  match C.ty t with
  | none => none
  | some i => match a with
    | .ptr l off lim => match h[l]? with
      | some (.arr cells _) => if off + i.size ≤ lim then mkVar i ((cells.drop off).take i.size) else none
      | _ => none
    | .fp cells => if i.size ≤ cells.length then mkVar i (cells.take i.size) else none
    | _ => none

theorem run_loadVar {C : Cfg} (ok : C.Ok) {E : Env} {w : World} {t : TypeId} {i : TyI} (hi : C.ty t = some i) {b off : Nat} {c : Array Value} {T : TypeId} {fr : Nat × Nat}
    (hb : w.heap[b]? = some (.cells c T fr)) {cs : List AVal} {r : AVal} (hr : mkVar i cs = some r) (hn : off + cs.length ≤ c.size) (hs : cs.length = i.size)
    (hrel : RvL E cs ((c.toList.drop off).take cs.length)) : ∃ v, (loadVar t ⟨b, off, none⟩).run C.P w = .ok v w ∧ Rv E r v := by
  unfold mkVar at hr
  simp only [loadVar, Sem.run_bind, run_isAgg ok hi w, Result.andThen_ok]
  split at hr
  · rename_i ha
    simp only [Option.some.injEq] at hr
    subst hr
    simp only [ha, if_true, Sem.run_bind, run_sizeOf ok hi w, Result.andThen_ok, run_loadCells_at C.P hb (show off + i.size ≤ c.size by omega)]
    exact ⟨_, rfl, .agg _ _ (by simpa [hs] using hrel)⟩
  · rename_i ha
    split at hr
    · rename_i v
      simp only [Option.some.injEq] at hr
      subst hr
      simp only [List.length_singleton] at hn hrel
      have hlt : off < c.size := by omega
      have h1 : (c.toList.drop off).take 1 = [c[off]] := by
        rw [List.drop_eq_getElem_cons (by simpa using hlt)]; simp
      rw [h1] at hrel
      cases hrel with
      | cons h1 _ =>
        refine ⟨_, ?_, h1⟩
        simp [ha, run_load_at C.P hb (Array.getElem?_eq_getElem hlt)]
    · simp at hr

theorem run_load {C : Cfg} (ok : C.Ok) {E : Env} {h : AHeap} {w : World} (g : Good E h w.heap) {t : TypeId} {a r : AVal} {v : Value} (hr : aLoad C h t a = some r) (ha : Rv E a v) :
    ∃ u, (Instr.loadAt t v).run C.P w = .ok u w ∧ Rv E r u := by
  unfold aLoad at hr
  split at hr
  · simp at hr
  · rename_i i hi
    split at hr
    · rename_i l off lim
      split at hr
      · rename_i cells wr e
        split at hr
        · rename_i hle
          cases ha with
          | ptr _ _ _ b n tot hm hn =>
            obtain ⟨c, T, fr, hb, h1, h2, h3⟩ := ArrAt.read g e hm
            have hlen : ((cells.drop off).take i.size).length = i.size := by simp; omega
            obtain ⟨v, hv, hrv⟩ := run_loadVar (off := off) ok hi hb hr (by rw [hlen]; omega) hlen (by
              have := (h3.drop off).take i.size
              rw [List.drop_take, List.drop_take, List.take_take, List.take_take, Nat.min_eq_left (by omega)] at this
              rw [hlen]; exact this)
            exact ⟨v, by simp [Instr.loadAt, Instr.sureAddr, hv], hrv⟩
        · simp at hr
      · simp at hr
    · rename_i cells
      split at hr
      · rename_i hle
        cases ha with
        | fp _ b off c vs hb hp hv =>
          obtain ⟨c', T, fr, h1, h2⟩ := g.fm b c hb
          have hlen : (cells.take i.size).length = i.size := by simp; omega
          have hvl := hv.length
          obtain ⟨t1, ht1⟩ := h2
          obtain ⟨t2, ht2⟩ := hp
          have hoff : off + vs.length ≤ c.length ∨ vs = [] := by
            have := congrArg List.length ht2
            simp at this
            by_cases hvs : vs = []
            · exact .inr hvs
            · refine .inl ?_
              have : 0 < vs.length := List.length_pos_iff.2 hvs
              omega
          have hsz : c.length ≤ c'.size := by
            have := congrArg List.length ht1; simp at this; omega
          by_cases hz : i.size = 0
          · -- nothing is read
            have hc0 : cells.take i.size = [] := by rw [hz]; simp
            rw [hc0] at hr
            unfold mkVar at hr
            split at hr
            · rename_i hagg
              simp only [Option.some.injEq] at hr
              subst hr
              refine ⟨.agg #[], ?_, .agg _ _ .nil⟩
              simp [Instr.loadAt, Instr.sureAddr, loadVar, run_isAgg ok hi w, hagg, run_sizeOf ok hi w, hz, loadCells, loadCellsFrom]
            · simp at hr
          · have hle2 : off + vs.length ≤ c.length := by
              rcases hoff with h | h
              · exact h
              · have h0 : vs.length = 0 := by rw [h]; rfl
                omega
            obtain ⟨v, hv', hrv⟩ := run_loadVar (off := off) ok hi h1 hr (by rw [hlen]; omega) hlen (by
              have h3 := (RvL.mono E.pure_le hv).take i.size
              have h4 : (c'.toList.drop off).take i.size = vs.take i.size := by
                rw [← ht1, List.drop_append_of_le_length (by omega), ← ht2, List.append_assoc, List.take_append_of_le_length (by omega)]
              rw [hlen, h4]; exact h3)
            exact ⟨v, by simp [Instr.loadAt, Instr.sureAddr, hv'], hrv⟩
      · simp at hr
    · simp at hr

theorem sound_load {C : Cfg} (ok : C.Ok) {E : Env} {h : AHeap} {w : World} (g : Good E h w.heap) {t : TypeId} {a r : AVal} {v : Value} (hr : aLoad C h t a = some r) (ha : Rv E a v) :
    Sound C.P (fun E v => Rv E r v) (Instr.loadAt t v) E h w h := by
  obtain ⟨u, h1, h2⟩ := run_load ok g hr ha
  exact .same g h1 h2

def aStore (C : Cfg) (h : AHeap) (t : TypeId) (a x : AVal) : Option Patch :=
  match C.ty t with
  | none => none
  | some i => match a with
    | .ptr l off lim => match h[l]? with
      | some (.arr cells true) =>
        if off + i.size ≤ lim ∧ x.cells.length = i.size ∧ x.cells.all AVal.oneCell = true ∧ lim ≤ cells.length then
          some [(l, .arr (cells.take off ++ x.cells ++ cells.drop (off + i.size)) true)]
        else none
      | _ => none
    | _ => none

theorem RvL.all_oneCell {E : Env} : ∀ {as : List AVal} {vs : List Value}, RvL E as vs → as.all AVal.oneCell = true → ∀ v, v ∈ vs → Value.oneCell v = true
  | [], [], _, _, v, hv => by simp at hv
  | a :: as, u :: us, .cons h hs, ho, v, hv => by
    simp only [List.all_cons, Bool.and_eq_true] at ho
    rcases List.mem_cons.1 hv with rfl | hv
    · exact h.oneCell ho.1
    · exact RvL.all_oneCell hs ho.2 v hv

/-- writing a row of cells into an object that is the caller's own -/
theorem sound_write {C : Cfg} {E : Env} {h : AHeap} {w : World} (g : Good E h w.heap) {l off : Nat} {cells new : List AVal} {vs : List Value} (e : h[l]? = some (.arr cells true))
    (hn : off + new.length ≤ cells.length) (hv : RvL E new vs) (ho : new.all AVal.oneCell = true) :
    ∃ w', (storeCells ⟨E.blk l, off, none⟩ vs).run C.P w = .ok () w' ∧ Good E (h.set l (.arr (cells.take off ++ new ++ cells.drop (off + new.length)) true)) w'.heap ∧
      Ext E h w.heap E (h.set l (.arr (cells.take off ++ new ++ cells.drop (off + new.length)) true)) w'.heap ∧ WSame w w' := by
  obtain ⟨c, T, fr, a⟩ := g.arr l cells true e
  have hl := hv.length
  have hle := a.le
  have hrun := run_storeCells_at C.P (b := E.blk l) (off := off) (T := T) (fr := fr) vs 0 (w := w) (c := c) a.there a.free (by omega) (hv.all_oneCell ho)
  refine ⟨_, hrun, ?_⟩
  have hps : (put c (off + 0) vs).size = c.size := put_size (by omega)
  have := good_write g e (c' := put c (off + 0) vs) (cells' := cells.take off ++ new ++ cells.drop (off + new.length)) a hps (by simp; omega) (by
    have h1 := ((a.rel.take off).append hv).append (a.rel.drop (off + new.length))
    have h2 : (put c (off + 0) vs).toList.take cells.length = (c.toList.take cells.length).take off ++ vs ++ (c.toList.take cells.length).drop (off + new.length) := by
      simp only [put, Nat.add_zero]
      rw [List.take_take, Nat.min_eq_left (by omega), List.drop_take]
      rw [List.take_append, List.take_of_length_le (l := c.toList.take off ++ vs) (by simp; omega)]
      congr 1
      rw [hl]
      congr 1
      simp; omega
    rw [h2]; exact h1)
  exact ⟨this.1, this.2, rfl, rfl, rfl⟩

theorem ArrAt.own_mem {E : Env} {h : AHeap} {H : Array Obj} (g : Good E h H) {l : Nat} {cells : List AVal} (e : h[l]? = some (.arr cells true)) {b n tot : Nat}
    (hm : (b, n, tot) ∈ E.rho l) : b = E.blk l ∧ n = cells.length := by
  obtain ⟨c, T, fr, a⟩ := g.arr l cells true e
  have := (a.own rfl).2 _ hm
  simp only [Prod.mk.injEq] at this
  exact ⟨this.1, this.2.1⟩

theorem sound_store {C : Cfg} (ok : C.Ok) {E : Env} {h : AHeap} {w : World} (g : Good E h w.heap) {t : TypeId} {a x : AVal} {v u : Value} {p : Patch}
    (hr : aStore C h t a x = some p) (ha : Rv E a v) (hx : Rv E x u) : Sound C.P (fun _ (_ : Unit) => True) (Instr.storeAt t v u) E h w (applyP h p) := by
  unfold aStore at hr
  split at hr
  · simp at hr
  · rename_i i hi
    split at hr
    · rename_i l off lim
      split at hr
      · rename_i cells e
        split at hr
        · rename_i hc
          obtain ⟨h1, h2, h3, h4⟩ := hc
          simp only [Option.some.injEq] at hr
          subst hr
          cases ha with
          | ptr _ _ _ b n tot hm hn =>
            obtain ⟨rfl, rfl⟩ := ArrAt.own_mem g e hm
            have hxc := hx.cells (AVal.known_of_one h3)
            have hxl := hxc.length
            obtain ⟨w', k1, k2, k3, k4⟩ := sound_write (C := C) (off := off) g e (new := x.cells) (vs := u.cells.toList) (by omega) hxc h3
            rw [applyP_live (Good.live_arr e)]
            rw [h2] at k2 k3
            refine ⟨(), w', E, ?_, trivial, k2, k3, k4⟩
            have hsz : u.cells.size = i.size := by simp at hxl; omega
            simp [Instr.storeAt, Instr.sureAddr, storeVar, run_sizeOf ok hi w, hsz, k1]
        · simp at hr
      · simp at hr
    · simp at hr

end Go.Proofs.Ae

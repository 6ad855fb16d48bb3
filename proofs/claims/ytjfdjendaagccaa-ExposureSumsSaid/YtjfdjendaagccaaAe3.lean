/-
  The program's tables as the abstract run reads them, and the runs of the model's smallest operations on memory.
-/
import Derived.Test.YtjfdjendaagccaaAe2
import Derived.Laws.Sem
import Derived.Laws.Cells
namespace Go.Proofs.Ae
open Go

structure TyI where
  desc : TypeDesc
  size : Nat
  bytes : Nat
  zero : Option Value

structure FnI where
  ntmps : Nat
  results : List ResultVar
  body : Code
  live : Nat → Option (List Nat)

structure Cfg where
  P : Program
  ty : TypeId → Option TyI
  fn : FuncId → Option FnI
  byRef : FuncId → Bool

structure Cfg.Ok (C : Cfg) : Prop where
  und : ∀ t i, C.ty t = some i → C.P.underlying t = some i.desc
  info : ∀ t i, C.ty t = some i → ∃ x, C.P.info? t = some x ∧ x.size = i.size ∧ x.bytes = i.bytes ∧ x.zero = i.zero
  fn : ∀ f i, C.fn f = some i → ∃ fn, C.P.funcs[f]? = some fn ∧ fn.body = some i.body ∧ fn.ntmps = i.ntmps ∧ fn.results.toList = i.results
  call : ∀ f i, C.fn f = some i → ∀ args w, (callFunc f args).run C.P w = .ok (.enter f args) w
  mixed : C.P.follows .mixedOrders = true

def TyI.isAgg (i : TyI) : Bool := match i.desc with | .struct _ | .array _ _ => true | _ => false

section
variable {C : Cfg} (ok : C.Ok) {t : TypeId} {i : TyI} (h : C.ty t = some i) (w : World)
include ok h
theorem run_typeInfo : ∃ x, (typeInfo t).run C.P w = .ok x w ∧ x.size = i.size ∧ x.bytes = i.bytes ∧ x.zero = i.zero := by
  obtain ⟨x, h1, h2⟩ := ok.info t i h
  refine ⟨x, ?_, h2⟩
  simp [typeInfo, program, Sem.run, bind, Sem.bind, h1, pure]
theorem run_underlying : (underlying t).run C.P w = .ok i.desc w := by
  simp [underlying, program, Sem.run, bind, Sem.bind, ok.und t i h, pure]
theorem run_sizeOf : (sizeOf t).run C.P w = .ok i.size w := by
  obtain ⟨x, h1, h2, _⟩ := run_typeInfo ok h w
  simp [sizeOf, h1, h2]
theorem run_zeroValue {v : Value} (hz : i.zero = some v) : (zeroValue t).run C.P w = .ok v w := by
  obtain ⟨x, h1, _, _, h2⟩ := run_typeInfo ok h w
  simp [zeroValue, h1, h2, hz]
theorem run_isAgg : (isAgg t).run C.P w = .ok i.isAgg w := by
  simp only [isAgg, Sem.run_bind, run_underlying ok h w, Result.andThen_ok, TyI.isAgg]
  cases i.desc <;> simp
end

/-! memory -/
theorem add_flat (b off n : Nat) : (⟨b, off, none⟩ : Addr).add n = ⟨b, off + n, none⟩ := by
  unfold Addr.add
  by_cases h : n = 0
  · subst h; simp
  · simp [h]

theorem cell_at {w : World} {b off : Nat} {c : Array Value} {T : TypeId} {fr : Nat × Nat} (h : w.heap[b]? = some (.cells c T fr)) : w.cell? ⟨b, off, none⟩ = c[off]? := by
  simp [World.cell?, h]

theorem run_loadCells_at (P : Program) {w : World} {b off n : Nat} {c : Array Value} {T : TypeId} {fr : Nat × Nat} (h : w.heap[b]? = some (.cells c T fr)) (hn : off + n ≤ c.size) :
    (loadCells ⟨b, off, none⟩ n).run P w = .ok ((c.toList.drop off).take n).toArray w := by
  have := run_loadCells_list (P := P) w ⟨b, off, none⟩ ((c.toList.drop off).take n) (fun j v hj => by
    rw [add_flat, cell_at h]
    have hjn : j < n := by
      have := (List.getElem?_eq_some_iff.1 hj).1
      simp at this; omega
    rw [List.getElem?_take_of_lt hjn, List.getElem?_drop] at hj
    simpa using hj)
  rwa [show ((c.toList.drop off).take n).length = n by simp; omega] at this

theorem run_load_at (P : Program) {w : World} {b off : Nat} {c : Array Value} {T : TypeId} {fr : Nat × Nat} {v : Value} (h : w.heap[b]? = some (.cells c T fr)) (hv : c[off]? = some v) :
    (load ⟨b, off, none⟩).run P w = .ok v w := by
  simp [load, Sem.run, cell_at h, hv]

/-- the cells of a row behind a store of some -/
def put (c : Array Value) (off : Nat) (vs : List Value) : Array Value := (c.toList.take off ++ vs ++ c.toList.drop (off + vs.length)).toArray

theorem put_size {c : Array Value} {off : Nat} {vs : List Value} (h : off + vs.length ≤ c.size) : (put c off vs).size = c.size := by
  simp [put]; omega

theorem put_nil (c : Array Value) (off : Nat) : put c off [] = c := by
  simp [put]

theorem put_cons {c : Array Value} {off : Nat} {v : Value} {vs : List Value} (h : off + (vs.length + 1) ≤ c.size) :
    put (c.setIfInBounds off v) (off + 1) vs = put c off (v :: vs) := by
  apply Array.ext'
  have ho : off < c.toList.length := by simp; omega
  simp only [put, Array.toList_setIfInBounds]
  rw [List.drop_set_of_lt (by omega), List.length_cons, show off + (vs.length + 1) = off + 1 + vs.length by omega]
  have : (c.toList.set off v).take (off + 1) = c.toList.take off ++ [v] := by
    rw [List.take_add_one, List.take_set_of_le (Nat.le_refl _), List.getElem?_set_self (by simpa using ho)]
    rfl
  rw [this]
  simp

theorem frozen_at {w : World} {b off : Nat} {c : Array Value} {T : TypeId} {fr : Nat × Nat} (h : w.heap[b]? = some (.cells c T fr)) (hf : FrOk fr c.size) (ho : off < c.size) :
    w.frozen? ⟨b, off, none⟩ = false := by
  have := hf off ho
  obtain ⟨lo, hi⟩ := fr
  simp only [World.frozen?, h]
  simp only [Bool.and_eq_false_iff, decide_eq_false_iff_not]
  simp only at this
  omega

theorem setCell_at {w : World} {b off : Nat} {c : Array Value} {T : TypeId} {fr : Nat × Nat} {v : Value} (h : w.heap[b]? = some (.cells c T fr)) :
    w.setCell ⟨b, off, none⟩ v = { w with heap := w.heap.setIfInBounds b (.cells (c.setIfInBounds off v) T fr) } := by
  have hb := (Array.getElem?_eq_some_iff.1 h).1
  have he := (Array.getElem?_eq_some_iff.1 h).2
  simp only [World.setCell]
  congr 1
  apply Array.ext_getElem?
  intro i
  rw [Array.getElem?_modify, Array.getElem?_setIfInBounds]
  by_cases hi : b = i
  · subst hi
    simp [hb, he]
  · simp [hi]

theorem run_storeCells_at (P : Program) {b off : Nat} {T : TypeId} {fr : Nat × Nat} : ∀ (vs : List Value) (i : Nat) {w : World} {c : Array Value}, w.heap[b]? = some (.cells c T fr) →
    FrOk fr c.size → off + i + vs.length ≤ c.size → (∀ v, v ∈ vs → Value.oneCell v = true) →
    (storeCells ⟨b, off, none⟩ vs i).run P w = .ok () { w with heap := w.heap.setIfInBounds b (.cells (put c (off + i) vs) T fr) }
  | [], i, w, c, h, _, _, _ => by
    have : w.heap.setIfInBounds b (.cells c T fr) = w.heap := by
      apply Array.ext_getElem?
      intro k
      rw [Array.getElem?_setIfInBounds]
      by_cases hk : b = k
      · subst hk; obtain ⟨h1, h2⟩ := Array.getElem?_eq_some_iff.1 h; simp [h1, h2]
      · simp [hk]
    simp [storeCells, put_nil, this]
  | v :: vs, i, w, c, h, hf, hn, h1 => by
    simp only [List.length_cons] at hn
    have hb := (Array.getElem?_eq_some_iff.1 h).1
    have hcell : w.cell? ⟨b, off + i, none⟩ = some c[off + i] := by rw [cell_at h, Array.getElem?_eq_getElem (by omega)]
    have hfz := frozen_at (off := off + i) h hf (by omega)
    have hone := h1 v List.mem_cons_self
    have hrun : (store ⟨b, off + i, none⟩ v).run P w = .ok () (w.setCell ⟨b, off + i, none⟩ v) := by
      cases v <;> first | (simp [Value.oneCell] at hone; done) | simp [store, Sem.run, hcell, hfz]
    have ih := run_storeCells_at P (b := b) (T := T) (fr := fr) (off := off) vs (i + 1) (w := w.setCell ⟨b, off + i, none⟩ v) (c := c.setIfInBounds (off + i) v)
      (by rw [setCell_at h]; simp [hb]) (by simpa using hf) (by simp; omega) (fun x hx => h1 x (List.mem_cons_of_mem _ hx))
    simp only [storeCells, add_flat, Sem.run_bind, hrun, Result.andThen_ok, ih]
    rw [setCell_at h, show off + (i + 1) = off + i + 1 by omega, put_cons (by omega)]
    simp

structure WSame (w w' : World) : Prop where
  tape : w'.tape = w.tape
  os : w'.os = w.os
  output : w'.output = w.output

theorem WSame.refl (w : World) : WSame w w := ⟨rfl, rfl, rfl⟩
theorem WSame.trans {a b c : World} (p : WSame a b) (q : WSame b c) : WSame a c := ⟨q.tape.trans p.tape, q.os.trans p.os, q.output.trans p.output⟩

/-- what an operation's run has to come to -/
def Sound {α : Type} (P : Program) (R : Env → α → Prop) (s : Sem α) (E : Env) (h : AHeap) (w : World) (h' : AHeap) : Prop :=
  ∃ v w' E', s.run P w = .ok v w' ∧ R E' v ∧ Good E' h' w'.heap ∧ Ext E h w.heap E' h' w'.heap ∧ WSame w w'

theorem Sound.same {α : Type} {P : Program} {R : Env → α → Prop} {s : Sem α} {E : Env} {h : AHeap} {w : World} {v : α} (g : Good E h w.heap)
    (hr : s.run P w = .ok v w) (hv : R E v) : Sound P R s E h w h := ⟨v, w, E, hr, hv, g, .refl _ _ _, .refl _⟩

theorem Sound.map {α β : Type} {P : Program} {R : Env → α → Prop} {R' : Env → β → Prop} {s : Sem α} {E : Env} {h h' : AHeap} {w : World} (f : α → β)
    (k : Sound P R s E h w h') (hf : ∀ E v, R E v → R' E (f v)) : Sound P R' (do pure (f (← s))) E h w h' := by
  obtain ⟨v, w', E', h1, h2, h3⟩ := k
  exact ⟨f v, w', E', by simp [h1], hf _ _ h2, h3⟩

end Go.Proofs.Ae

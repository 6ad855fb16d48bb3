/-
  Calls: the callee is run on a heap of its own, that holds what its arguments reach; what it leaves is carried back.
-/
import Derived.Test.YtjfdjendaagccaaAeB
namespace Go.Proofs.Ae
open Go

/-! ### the objects that a value names -/
mutual
def locs : AVal → List Nat
  | .ms l _ _ _ _ _ => [l]
  | .ptr l _ _ => [l]
  | .mp l => [l]
  | .agg cs => locsL cs
  | .tup cs => locsL cs
  | .ifc _ v => locs v
  | .clo _ fi ca => locsL fi ++ locsL ca
  | _ => []
def locsL : List AVal → List Nat
  | [] => []
  | a :: as => locs a ++ locsL as
end

def objLocs : AObj → List Nat
  | .dead => []
  | .arr cells _ => locsL cells
  | .mp es => es.flatMap fun e => locs e.1 ++ locs e.2

def addN (acc : List Nat) (x : Nat) : List Nat := if acc.contains x then acc else acc ++ [x]
def nub (l : List Nat) : List Nat := l.foldl addN []

def olocs (h : AHeap) (l : Nat) : List Nat := match h[l]? with
  | some o => objLocs o
  | none => []

def reach : Nat → AHeap → List Nat → List Nat
  | 0, _, L => L
  | n + 1, h, L =>
    let L' := (L.flatMap (olocs h)).foldl addN L
    if L'.length = L.length then L else reach n h L'

def pos : List Nat → Nat → Option Nat
  | [], _ => none
  | x :: xs, l => if x = l then some 0 else match pos xs l with
    | some i => some (i + 1)
    | none => none

theorem pos_get : ∀ {L : List Nat} {l i : Nat}, pos L l = some i → L[i]? = some l
  | x :: xs, l, i, h => by
    simp only [pos] at h
    split at h
    · rename_i hx
      simp only [Option.some.injEq] at h; subst h; simp [hx]
    · split at h
      · rename_i j hj
        simp only [Option.some.injEq] at h; subst h
        simpa using pos_get hj
      · simp at h

theorem pos_none : ∀ {L : List Nat} {l : Nat}, pos L l = none → l ∉ L
  | [], l, _ => by simp
  | x :: xs, l, h => by
    simp only [pos] at h
    split at h
    · simp at h
    · rename_i hx
      split at h
      · simp at h
      · rename_i hj
        have := pos_none hj
        simp [this]; exact fun h => hx h.symm

theorem pos_of_get : ∀ {L : List Nat} {l i : Nat}, L.Nodup → L[i]? = some l → pos L l = some i
  | [], l, i, _, h => by simp at h
  | x :: xs, l, 0, _, h => by simp at h; simp [pos, h]
  | x :: xs, l, i + 1, hn, h => by
    have h' : xs[i]? = some l := by simpa using h
    have hm : l ∈ xs := List.mem_of_getElem? h'
    have hne : x ≠ l := fun e => by
      subst e
      exact (List.nodup_cons.1 hn).1 hm
    simp [pos, hne, pos_of_get (List.nodup_cons.1 hn).2 h']

def relocIn (cn : Bool) (L : List Nat) : Hd where
  cn := cn
  ptr l off lim := match pos L l with
    | some i => some (.ptr i off lim)
    | none => none
  ms l off len sz lo ex := match pos L l with
    | some i => some (.ms i off len sz lo ex)
    | none => none
  mp l := match pos L l with
    | some i => some (.mp i)
    | none => none

def Env.sub (E : Env) (L : List Nat) : Env where
  fm := E.fm
  rho i := match L[i]? with
    | some l => E.rho l
    | none => []
  blk i := match L[i]? with
    | some l => E.blk l
    | none => 0

theorem relocIn_ok (cn : Bool) (E : Env) (L : List Nat) : (relocIn cn L).Ok E (E.sub L) where
  fm _ _ h := h
  ptr l off lim a v h g := by
    simp only [relocIn] at h
    split at h
    · rename_i i hi
      simp only [Option.some.injEq] at h; subst h
      cases g with
      | ptr _ _ _ b n tot hm hn => exact .ptr _ _ _ b n tot (by simp only [Env.sub, pos_get hi]; exact hm) hn
    · simp at h
  ms l off len sz lo ex a v h g := by
    simp only [relocIn] at h
    split at h
    · rename_i i hi
      simp only [Option.some.injEq] at h; subst h
      cases g with
      | ms _ _ _ _ _ _ b n tot cap' hm hn ht hl hlo hc => exact .ms _ _ _ _ _ _ b n tot cap' (by simp only [Env.sub, pos_get hi]; exact hm) hn ht hl hlo hc
    · simp at h
  mp l a v h g := by
    simp only [relocIn] at h
    split at h
    · rename_i i hi
      simp only [Option.some.injEq] at h; subst h
      cases g with
      | mp _ b hm => exact .mp _ b (by simp only [Env.sub, pos_get hi]; exact hm)
    · simp at h

theorem mapVL_take {k : Hd} : ∀ {as as' : List AVal} (n : Nat), mapVL k as = some as' → mapVL k (as.take n) = some (as'.take n)
  | [], _, n, h => by simp only [mapVL, Option.some.injEq] at h; subst h; simp [mapVL]
  | a :: as, _, 0, h => by simp [mapVL]
  | a :: as, _, n + 1, h => by
    simp only [mapVL] at h
    split at h
    · rename_i a' as' ha has
      simp only [Option.some.injEq] at h; subst h
      simp [mapVL, ha, mapVL_take n has]
    · simp at h

/-- an object is carried over: block, history and cells are the same, its contents read in the other environment -/
theorem ArrAt.carry {E E' : Env} {H : Array Obj} {l l' : Nat} {cells cells' : List AVal} {wr : Bool} {c : Array Value} {T : TypeId} {fr : Nat × Nat} {k : Hd} (hk : k.Ok E E')
    (a : ArrAt E H l cells wr c T fr) (hc : mapVL k cells = some cells') (hb : E'.blk l' = E.blk l) (hr : E'.rho l' = E.rho l) (hfm : E'.fm = E.fm) : ArrAt E' H l' cells' wr c T fr where
  there := by rw [hb]; exact a.there
  free := a.free
  mem := by rw [hb, hr, mapVL_length hc]; exact a.mem
  le := by rw [mapVL_length hc]; exact a.le
  rel := by rw [mapVL_length hc]; exact mapVL_rel hk hc a.rel
  fm fc h := by rw [hb, hfm] at h; rw [mapVL_length hc]; exact a.fm fc h
  own h := by rw [hb, hr, hfm, mapVL_length hc]; exact a.own h
  hist x hx := by
    rw [hr] at hx
    rw [hb, mapVL_length hc, hfm]
    rcases a.hist x hx with h | ⟨h1, fc, h2, h3, h4⟩
    · exact .inl h
    · exact .inr ⟨h1, fc, h2, h3, mapVL_rel hk (mapVL_take _ hc) h4⟩

theorem MpOk.carry {E E' : Env} {H : Array Obj} {l l' : Nat} {es es' : List (AVal × AVal)} {k : Hd} (hk : k.Ok E E') (a : MpOk E H l es) (hc : mapE k es = some es')
    (hb : E'.blk l' = E.blk l) (hr : E'.rho l' = E.rho l) (hfm : E'.fm = E.fm) : MpOk E' H l' es' := by
  obtain ⟨m, cl, h1, h2, h3, h4, h5⟩ := a
  exact ⟨m, cl, by rw [hb]; exact h1, by rw [hr, hb]; exact h2, mapE_rel hk hc h3, by rw [hb, hfm]; exact h4, h5⟩

def subHeap (h : AHeap) (L : List Nat) : List Nat → Option AHeap
  | [] => some []
  | l :: ls => match h[l]? with
    | some o => match o with
      | .dead => none
      | o => match mapObj (relocIn false L) o, subHeap h L ls with
        | some o', some os => some (o' :: os)
        | _, _ => none
    | none => none

theorem subHeap_spec {h : AHeap} {L : List Nat} : ∀ {ls : List Nat} {sub : AHeap}, subHeap h L ls = some sub → sub.length = ls.length ∧
    ∀ (i l : Nat), ls[i]? = some l → ∃ (o o' : AObj), h[l]? = some o ∧ o ≠ .dead ∧ mapObj (relocIn false L) o = some o' ∧ sub[i]? = some o'
  | [], sub, hs => by simp only [subHeap, Option.some.injEq] at hs; subst hs; exact ⟨rfl, fun i l h => by simp at h⟩
  | l :: ls, sub, hs => by
    simp only [subHeap] at hs
    split at hs
    · rename_i o ho
      split at hs
      · simp at hs
      · rename_i hd
        split at hs
        · rename_i o' os h1 h2
          simp only [Option.some.injEq] at hs
          subst hs
          obtain ⟨k1, k2⟩ := subHeap_spec h2
          refine ⟨by simp [k1], fun i x hx => ?_⟩
          cases i with
          | zero => simp at hx; subst hx; exact ⟨o, o', ho, hd, h1, by simp⟩
          | succ i => simpa using k2 i x (by simpa using hx)
        · simp at hs
    · simp at hs

theorem mapObj_live {k : Hd} {o o' : AObj} (h : mapObj k o = some o') : o' = .dead ↔ o = .dead := by
  cases o with
  | dead => simp [mapObj] at h; simp [← h]
  | arr cells w =>
    simp only [mapObj] at h
    split at h
    · simp at h; simp [← h]
    · simp at h
  | mp es =>
    simp only [mapObj] at h
    split at h
    · simp at h; simp [← h]
    · simp at h

theorem good_sub {E : Env} {h : AHeap} {H : Array Obj} (g : Good E h H) {L : List Nat} (hn : L.Nodup) {sub : AHeap} (hs : subHeap h L L = some sub) : Good (E.sub L) sub H := by
  obtain ⟨hlen, hget⟩ := subHeap_spec hs
  have live : ∀ i, Live sub i → ∃ l, L[i]? = some l ∧ Live h l := fun i ⟨o, h1, h2⟩ => by
    have hi : i < L.length := by rw [← hlen]; exact (List.getElem?_eq_some_iff.1 h1).1
    obtain ⟨x, x', k1, k2, k3, k4⟩ := hget i L[i] (List.getElem?_eq_getElem hi)
    exact ⟨L[i], List.getElem?_eq_getElem hi, x, k1, k2⟩
  refine ⟨g.fm, ?_, ?_, ?_, ?_⟩
  · intro i cells wr e
    have hi : i < L.length := by rw [← hlen]; exact (List.getElem?_eq_some_iff.1 e).1
    have hl := List.getElem?_eq_getElem hi
    obtain ⟨x, x', k1, k2, k3, k4⟩ := hget i L[i] hl
    rw [e] at k4
    simp only [Option.some.injEq] at k4
    subst k4
    cases x with
    | dead => exact absurd rfl k2
    | mp es => simp only [mapObj] at k3; split at k3 <;> simp at k3
    | arr cells0 w0 =>
      simp only [mapObj] at k3
      split at k3
      · rename_i cells' hc
        simp only [Option.some.injEq, AObj.arr.injEq] at k3
        obtain ⟨rfl, rfl⟩ := k3
        obtain ⟨c, T, fr, a⟩ := g.arr _ _ _ k1
        exact ⟨c, T, fr, a.carry (relocIn_ok _ E L) hc (by simp [Env.sub, hl]) (by simp [Env.sub, hl]) rfl⟩
      · simp at k3
  · intro i es e
    have hi : i < L.length := by rw [← hlen]; exact (List.getElem?_eq_some_iff.1 e).1
    have hl := List.getElem?_eq_getElem hi
    obtain ⟨x, x', k1, k2, k3, k4⟩ := hget i L[i] hl
    rw [e] at k4
    simp only [Option.some.injEq] at k4
    subst k4
    cases x with
    | dead => exact absurd rfl k2
    | arr cells w => simp only [mapObj] at k3; split at k3 <;> simp at k3
    | mp es0 =>
      simp only [mapObj] at k3
      split at k3
      · rename_i es' hc
        simp only [Option.some.injEq, AObj.mp.injEq] at k3
        subst k3
        exact (g.mp _ _ k1).carry (relocIn_ok _ E L) hc (by simp [Env.sub, hl]) (by simp [Env.sub, hl]) rfl
      · simp at k3
  · intro i j hi hj e
    obtain ⟨l, h1, h2⟩ := live i hi
    obtain ⟨m, h3, h4⟩ := live j hj
    simp only [Env.sub, h1, h3] at e
    have := g.inj l m h2 h4 e
    subst this
    have p1 := pos_of_get hn h1
    have p2 := pos_of_get hn h3
    rw [p1] at p2
    simpa using p2
  · intro i hd
    simp only [Env.sub]
    split
    · rename_i l hl
      obtain ⟨x, x', k1, k2, k3, k4⟩ := hget i l hl
      exact absurd ⟨x', k4, fun e => k2 ((mapObj_live k3).1 e)⟩ hd
    · rfl

/-! ### back again -/
def outIdx (L : List Nat) (n : Nat) (keep : Bool) (i : Nat) : Option Nat :=
  if i < L.length then L[i]? else if keep = true then some (n + (i - L.length)) else none

def inIdx (L : List Nat) (n : Nat) (keep : Bool) (l : Nat) : Option Nat :=
  match pos L l with
  | some i => some i
  | none => if keep = true ∧ n ≤ l then some (L.length + (l - n)) else none

theorem in_out {L : List Nat} {n : Nat} {keep : Bool} {i l : Nat} (hn : L.Nodup) (hlt : ∀ x, x ∈ L → x < n) (h : outIdx L n keep i = some l) : inIdx L n keep l = some i := by
  unfold outIdx at h
  split at h
  · simp [inIdx, pos_of_get hn h]
  · rename_i hi
    split at h
    · rename_i hk
      simp only [Option.some.injEq] at h
      have hp : pos L l = none := by
        cases hp : pos L l with
        | none => rfl
        | some j => exact absurd (hlt l (List.mem_of_getElem? (pos_get hp))) (by omega)
      have hnl : n ≤ l := by omega
      simp [inIdx, hp, hk, hnl]; omega
    · simp at h

def relocOut (cn : Bool) (L : List Nat) (n : Nat) (keep : Bool) (sub : AHeap) : Hd where
  cn := cn
  ptr i off lim := match outIdx L n keep i with
    | some l => some (.ptr l off lim)
    | none => none
  ms i off len sz lo ex := match outIdx L n keep i with
    | some l => some (.ms l off len sz lo ex)
    | none => frz 4 sub (.ms i off len sz lo ex)
  mp i := match outIdx L n keep i with
    | some l => some (.mp l)
    | none => none

def Env.back (Ec E : Env) (L : List Nat) (n : Nat) (keep : Bool) : Env where
  fm := Ec.fm
  rho l := match inIdx L n keep l with
    | some i => Ec.rho i
    | none => E.rho l
  blk l := match inIdx L n keep l with
    | some i => Ec.blk i
    | none => E.blk l

theorem relocOut_ok {cn : Bool} {Ec E : Env} {L : List Nat} {n : Nat} {keep : Bool} {sub : AHeap} (hn : L.Nodup) (hlt : ∀ x, x ∈ L → x < n) (hs : Sealed Ec sub) :
    (relocOut cn L n keep sub).Ok Ec (Ec.back E L n keep) where
  fm _ _ h := h
  ptr i off lim a v h g := by
    simp only [relocOut] at h
    split at h
    · rename_i l hl
      simp only [Option.some.injEq] at h; subst h
      cases g with
      | ptr _ _ _ b n' tot hm hn' => exact .ptr _ _ _ b n' tot (by simp only [Env.back, in_out hn hlt hl]; exact hm) hn'
    · simp at h
  ms i off len sz lo ex a v h g := by
    simp only [relocOut] at h
    split at h
    · rename_i l hl
      simp only [Option.some.injEq] at h; subst h
      cases g with
      | ms _ _ _ _ _ _ b n' tot cap' hm hn' ht hl' hlo hc => exact .ms _ _ _ _ _ _ b n' tot cap' (by simp only [Env.back, in_out hn hlt hl]; exact hm) hn' ht hl' hlo hc
    · exact (Rv.mono (E := Ec.pure) (E' := Ec.back E L n keep) ⟨fun b c hc => ⟨c, hc, List.prefix_refl c⟩, fun _ _ hx => by simp [Env.pure] at hx⟩ (frz_rel hs 4 h g))
  mp i a v h g := by
    simp only [relocOut] at h
    split at h
    · rename_i l hl
      simp only [Option.some.injEq] at h; subst h
      cases g with
      | mp _ b hm => exact .mp _ b (by simp only [Env.back, in_out hn hlt hl]; exact hm)
    · simp at h

def mapObjs (k : Hd) : AHeap → Option AHeap
  | [] => some []
  | o :: os => match mapObj k o, mapObjs k os with
    | some o', some os' => some (o' :: os')
    | _, _ => none

theorem mapObjs_spec {k : Hd} : ∀ {os os' : AHeap}, mapObjs k os = some os' → os'.length = os.length ∧ ∀ (i : Nat) (o : AObj), os[i]? = some o → ∃ o' : AObj, mapObj k o = some o' ∧ os'[i]? = some o'
  | [], _, h => by simp only [mapObjs, Option.some.injEq] at h; subst h; exact ⟨rfl, fun i o h => by simp at h⟩
  | o :: os, _, h => by
    simp only [mapObjs] at h
    split at h
    · rename_i o' os' h1 h2
      simp only [Option.some.injEq] at h; subst h
      obtain ⟨k1, k2⟩ := mapObjs_spec h2
      refine ⟨by simp [k1], fun i x hx => ?_⟩
      cases i with
      | zero => simp at hx; subst hx; exact ⟨o', h1, by simp⟩
      | succ i => simpa using k2 i x (by simpa using hx)
    · simp at h

def pushes (n : Nat) : AHeap → Patch
  | [] => []
  | o :: os => (n, o) :: pushes (n + 1) os

theorem applyP_append : ∀ (p q : Patch) (h : AHeap), applyP h (p ++ q) = applyP (applyP h p) q
  | [], _, _ => rfl
  | (l, o) :: p, q, h => by simp only [List.cons_append, applyP]; exact applyP_append p q _

theorem applyP_pushes : ∀ (os : AHeap) (h : AHeap), applyP h (pushes h.length os) = h ++ os
  | [], h => by simp [pushes, applyP]
  | o :: os, h => by
    simp only [pushes, applyP, Nat.lt_irrefl, if_false]
    have := applyP_pushes os (h ++ [o])
    simp only [List.length_append, List.length_singleton] at this
    rw [this]; simp

theorem applyP_zip : ∀ (L : List Nat) (os : AHeap) (h : AHeap), L.Nodup → (∀ x, x ∈ L → x < h.length) → os.length = L.length →
    (applyP h (L.zip os)).length = h.length ∧ ∀ l, (applyP h (L.zip os))[l]? = match pos L l with | some i => os[i]? | none => h[l]?
  | [], os, h, _, _, _ => by simp [applyP, pos]
  | x :: L, [], h, _, _, hl => by simp at hl
  | x :: L, o :: os, h, hn, hlt, hl => by
    have hx : x < h.length := hlt x List.mem_cons_self
    obtain ⟨h1, h2⟩ := applyP_zip L os (h.set x o) (List.nodup_cons.1 hn).2 (fun y hy => by simpa using hlt y (List.mem_cons_of_mem _ hy)) (by simpa using hl)
    simp only [List.zip_cons_cons, applyP, hx, if_true]
    refine ⟨by rw [h1]; simp, fun l => ?_⟩
    rw [h2]
    by_cases hxl : x = l
    · subst hxl
      have hp : pos L x = none := by
        cases hp : pos L x with
        | none => rfl
        | some j => exact absurd (List.mem_of_getElem? (pos_get hp)) (List.nodup_cons.1 hn).1
      simp [pos, hp, hx]
    · simp only [pos, hxl, if_false]
      cases hp : pos L l with
      | none => simp only; rw [List.getElem?_set_ne hxl]
      | some j => simp

/-- the callee's heap is carried back -/
theorem good_back {E Ec : Env} {h sub0 sub : AHeap} {H H' : Array Obj} (g : Good E h H) {L : List Nat} (hn : L.Nodup) (hlt : ∀ x, x ∈ L → x < h.length) (hs0 : subHeap h L L = some sub0)
    (gc : Good Ec sub H') (xc : Ext (E.sub L) sub0 H Ec sub H') (hs : Sealed Ec sub) {keep : Bool} {os : AHeap}
    (hos : mapObjs (relocOut false L h.length keep sub) (if keep = true then sub else sub.take L.length) = some os) :
    Good (Ec.back E L h.length keep) (applyP h (L.zip (os.take L.length) ++ pushes h.length (os.drop L.length))) H' ∧
      Ext E h H (Ec.back E L h.length keep) (applyP h (L.zip (os.take L.length) ++ pushes h.length (os.drop L.length))) H' := by
  have hk := relocOut_ok (cn := false) (E := E) (keep := keep) hn hlt hs
  obtain ⟨hl0, hg0⟩ := subHeap_spec hs0
  have hsl : L.length ≤ sub.length := by rw [← hl0]; exact xc.len
  obtain ⟨ho1, ho2⟩ := mapObjs_spec hos
  have hol : os.length = if keep = true then sub.length else L.length := by
    rw [ho1]; split <;> simp; omega
  have hge : L.length ≤ os.length := by rw [hol]; split <;> omega
  obtain ⟨z1, z2⟩ := applyP_zip L (os.take L.length) h hn hlt (by simp; omega)
  have hheap : applyP h (L.zip (os.take L.length) ++ pushes h.length (os.drop L.length)) = applyP h (L.zip (os.take L.length)) ++ os.drop L.length := by
    rw [applyP_append]
    have := applyP_pushes (os.drop L.length) (applyP h (L.zip (os.take L.length)))
    rw [z1] at this
    exact this
  generalize hR : applyP h (L.zip (os.take L.length) ++ pushes h.length (os.drop L.length)) = R at hheap ⊢
  -- what lies at l
  have hget : ∀ l, R[l]? = match inIdx L h.length keep l with | some i => os[i]? | none => h[l]? := by
    intro l
    rw [hheap]
    by_cases hll : l < h.length
    · rw [List.getElem?_append_left (by rw [z1]; exact hll), z2]
      simp only [inIdx]
      cases hp : pos L l with
      | some i =>
        have hi : i < L.length := (List.getElem?_eq_some_iff.1 (pos_get hp)).1
        simp only
        rw [List.getElem?_take_of_lt hi]
      | none =>
        have : ¬ h.length ≤ l := by omega
        simp [this]
    · rw [List.getElem?_append_right (by rw [z1]; omega), z1, List.getElem?_drop]
      have hp : pos L l = none := by
        cases hp : pos L l with
        | none => rfl
        | some j => exact absurd (hlt l (List.mem_of_getElem? (pos_get hp))) (by omega)
      simp only [inIdx, hp]
      by_cases hkp : keep = true
      · have : h.length ≤ l := by omega
        simp [hkp, this]
      · simp only [hkp, Bool.false_eq_true, false_and, if_false]
        rw [List.getElem?_eq_none (by rw [hol]; simp [hkp]), List.getElem?_eq_none (by omega)]
  have hin : ∀ l i, inIdx L h.length keep l = some i → (L[i]? = some l ∧ i < L.length) ∨ (keep = true ∧ L.length ≤ i ∧ h.length ≤ l) := by
    intro l i hi
    unfold inIdx at hi
    split at hi
    · rename_i j hj
      simp only [Option.some.injEq] at hi; subst hi
      exact .inl ⟨pos_get hj, (List.getElem?_eq_some_iff.1 (pos_get hj)).1⟩
    · split at hi
      · rename_i hc
        simp only [Option.some.injEq] at hi
        exact .inr ⟨hc.1, by omega, hc.2⟩
      · simp at hi
  have hosub : ∀ (i : Nat) (o' : AObj), os[i]? = some o' → ∃ o : AObj, sub[i]? = some o ∧ mapObj (relocOut false L h.length keep sub) o = some o' := by
    intro i o' hi
    have hil : i < os.length := (List.getElem?_eq_some_iff.1 hi).1
    have hlen2 : i < (if keep = true then sub else sub.take L.length).length := by rw [← ho1]; exact hil
    obtain ⟨o'', k1, k2⟩ := ho2 i _ (List.getElem?_eq_getElem hlen2)
    rw [hi] at k2
    simp only [Option.some.injEq] at k2
    subst k2
    refine ⟨_, ?_, k1⟩
    have := List.getElem?_eq_getElem hlen2
    by_cases hkp : keep = true
    · simp only [hkp, if_true] at this ⊢
      exact this
    · simp only [hkp, Bool.false_eq_true, if_false] at this hlen2 ⊢
      have hi2 : i < L.length := by simp at hlen2; omega
      rw [List.getElem?_take_of_lt hi2] at this
      exact this
  have rhoE : ∀ l i, inIdx L h.length keep l = some i → (Ec.back E L h.length keep).rho l = Ec.rho i ∧ (Ec.back E L h.length keep).blk l = Ec.blk i := fun l i hi => by simp [Env.back, hi]
  have rhoN : ∀ l, inIdx L h.length keep l = none → (Ec.back E L h.length keep).rho l = E.rho l ∧ (Ec.back E L h.length keep).blk l = E.blk l := fun l hi => by simp [Env.back, hi]
  have le : E.Le (Ec.back E L h.length keep) := ⟨xc.le.fm, fun l x hx => by
    cases hi : inIdx L h.length keep l with
    | none => rw [(rhoN l hi).1]; exact hx
    | some i =>
      rw [(rhoE l i hi).1]
      rcases hin l i hi with ⟨h1, _⟩ | ⟨_, _, h3⟩
      · exact xc.le.rho i x (by simp only [Env.sub, h1]; exact hx)
      · rw [g.dead l (fun ⟨o, h4, _⟩ => by have := (List.getElem?_eq_some_iff.1 h4).1; omega)] at hx
        simp at hx⟩
  -- who owns what, at the start
  have subLive : ∀ i, Live sub0 i → ∃ l, L[i]? = some l ∧ Live h l ∧ (E.sub L).blk i = E.blk l := fun i ⟨o, h1, h2⟩ => by
    have hi : i < L.length := by rw [← hl0]; exact (List.getElem?_eq_some_iff.1 h1).1
    have hl := List.getElem?_eq_getElem hi
    obtain ⟨x, x', k1, k2, k3, k4⟩ := hg0 i L[i] hl
    exact ⟨L[i], hl, ⟨x, k1, k2⟩, by simp [Env.sub, hl]⟩
  have other : ∀ l, Live h l → inIdx L h.length keep l = none → ∀ i, Live sub0 i → (E.sub L).blk i ≠ E.blk l := by
    intro l hl hi i hs e
    obtain ⟨m, h1, h2, h3⟩ := subLive i hs
    rw [h3] at e
    have := g.inj m l h2 hl e
    subst this
    simp [inIdx, pos_of_get hn h1] at hi
  have blkc : ∀ l i, inIdx L h.length keep l = some i → Live sub i → (Live h l ∧ Ec.blk i = E.blk l) ∨ H.size ≤ Ec.blk i := by
    intro l i hi hls
    rcases xc.blk i hls with ⟨h1, h2⟩ | h1
    · obtain ⟨m, k1, k2, k3⟩ := subLive i h1
      rcases hin l i hi with ⟨q1, _⟩ | ⟨_, q2, _⟩
      · rw [k1] at q1
        simp only [Option.some.injEq] at q1
        subst q1
        exact .inl ⟨k2, h2.trans k3⟩
      · have : i < L.length := (List.getElem?_eq_some_iff.1 k1).1
        omega
    · exact .inr h1
  have liveR : ∀ l i, inIdx L h.length keep l = some i → Live R l → Live sub i := by
    intro l i hi ⟨o, h1, h2⟩
    rw [hget l, hi] at h1
    obtain ⟨x, k1, k2⟩ := hosub i o h1
    exact ⟨x, k1, fun e => h2 ((mapObj_live k2).2 e)⟩
  have liveN : ∀ l, inIdx L h.length keep l = none → Live R l → Live h l := by
    intro l hi ⟨o, h1, h2⟩
    rw [hget l, hi] at h1
    exact ⟨o, h1, h2⟩
  refine ⟨g.others (fun l => (inIdx L h.length keep l).isSome = true) le ?_ ?_ ?_ ?_ gc.fm ?_ ?_ ?_ ?_, le, xc.size, ?_, ?_, ?_⟩
  · intro l hl
    have hi : inIdx L h.length keep l = none := by simpa using hl
    rw [hget l, hi]
  · intro l hl
    exact (rhoN l (by simpa using hl)).2
  · intro l hl
    exact (rhoN l (by simpa using hl)).1
  · intro l hl hlv
    have hi : inIdx L h.length keep l = none := by simpa using hl
    exact xc.frame (E.blk l) (g.blk_lt hlv) (other l hlv hi)
  · intro l cells wr hl e
    obtain ⟨i, hi⟩ := Option.isSome_iff_exists.1 hl
    rw [hget l, hi] at e
    obtain ⟨x, k1, k2⟩ := hosub i _ e
    cases x with
    | dead => simp [mapObj] at k2
    | mp es => simp only [mapObj] at k2; split at k2 <;> simp at k2
    | arr cells0 w0 =>
      simp only [mapObj] at k2
      split at k2
      · rename_i cells' hc
        simp only [Option.some.injEq, AObj.arr.injEq] at k2
        obtain ⟨rfl, rfl⟩ := k2
        obtain ⟨c, T, fr, a⟩ := gc.arr _ _ _ k1
        exact ⟨c, T, fr, a.carry hk hc (rhoE l i hi).2 (rhoE l i hi).1 rfl⟩
      · simp at k2
  · intro l es hl e
    obtain ⟨i, hi⟩ := Option.isSome_iff_exists.1 hl
    rw [hget l, hi] at e
    obtain ⟨x, k1, k2⟩ := hosub i _ e
    cases x with
    | dead => simp [mapObj] at k2
    | arr cells w => simp only [mapObj] at k2; split at k2 <;> simp at k2
    | mp es0 =>
      simp only [mapObj] at k2
      split at k2
      · rename_i es' hc
        simp only [Option.some.injEq, AObj.mp.injEq] at k2
        subst k2
        exact (gc.mp _ _ k1).carry hk hc (rhoE l i hi).2 (rhoE l i hi).1 rfl
      · simp at k2
  · intro l l' hl h1 h2 e
    obtain ⟨i, hi⟩ := Option.isSome_iff_exists.1 hl
    rw [(rhoE l i hi).2] at e
    have hls := liveR l i hi h1
    cases hj : inIdx L h.length keep l' with
    | some j =>
      rw [(rhoE l' j hj).2] at e
      have hls' := liveR l' j hj h2
      have := gc.inj i j hls hls' e
      subst this
      rcases hin l i hi with ⟨q1, q2⟩ | ⟨q0, q1, q2⟩
      · rcases hin l' i hj with ⟨r1, r2⟩ | ⟨r0, r1, r2⟩
        · rw [q1] at r1; simpa using r1
        · omega
      · rcases hin l' i hj with ⟨r1, r2⟩ | ⟨r0, r1, r2⟩
        · omega
        · have pl : pos L l = none := by
            cases hp : pos L l with
            | none => rfl
            | some j => exact absurd (hlt l (List.mem_of_getElem? (pos_get hp))) (by omega)
          have pl' : pos L l' = none := by
            cases hp : pos L l' with
            | none => rfl
            | some j => exact absurd (hlt l' (List.mem_of_getElem? (pos_get hp))) (by omega)
          simp only [inIdx, pl, q0, q2, and_self, if_true, Option.some.injEq] at hi
          simp only [inIdx, pl', q0, r2, and_self, if_true, Option.some.injEq] at hj
          omega
    | none =>
      rw [(rhoN l' hj).2] at e
      have hlv := liveN l' hj h2
      have := g.blk_lt hlv
      rcases blkc l i hi hls with ⟨q1, q2⟩ | q1
      · rw [q2] at e
        have := g.inj l l' q1 hlv e
        subst this
        rw [hi] at hj
      · omega
  · intro l hl hd
    obtain ⟨i, hi⟩ := Option.isSome_iff_exists.1 hl
    rw [(rhoE l i hi).1]
    refine gc.dead i fun ⟨x, h1, h2⟩ => hd ?_
    have hii : i < (if keep = true then sub else sub.take L.length).length := by
      have : i < sub.length := (List.getElem?_eq_some_iff.1 h1).1
      rcases hin l i hi with ⟨_, q2⟩ | ⟨q0, _, _⟩
      · split
        · omega
        · simp; omega
      · simp [q0]; omega
    have hx : (if keep = true then sub else sub.take L.length)[i]? = some x := by
      rcases hin l i hi with ⟨_, q2⟩ | ⟨q0, _, _⟩
      · split
        · exact h1
        · rw [List.getElem?_take_of_lt q2]; exact h1
      · simp [q0, h1]
    obtain ⟨o', k1, k2⟩ := ho2 i x hx
    exact ⟨o', by rw [hget l, hi]; exact k2, fun e => h2 ((mapObj_live k1).1 e)⟩
  · rw [hheap, List.length_append, z1]; omega
  · intro b hb hno
    refine xc.frame b hb fun i hi e => ?_
    obtain ⟨m, h1, h2, h3⟩ := subLive i hi
    exact hno m h2 (h3.symm.trans e)
  · intro l hl
    cases hi : inIdx L h.length keep l with
    | some i =>
      rw [(rhoE l i hi).2]
      exact blkc l i hi (liveR l i hi hl)
    | none =>
      rw [(rhoN l hi).2]
      exact .inl ⟨liveN l hi hl, rfl⟩

end Go.Proofs.Ae

/-
  The abstract heap and what it says of the model's heap: each object owns one block; blocks that are frozen are never written again.
-/
import Derived.Test.YtjfdjendaagccaaAe0
namespace Go.Proofs.Ae
open Go

inductive AObj where
  | dead
  | arr (cells : List AVal) (w : Bool)
  | mp (es : List (AVal × AVal))
  deriving Inhabited

abbrev AHeap := List AObj

def Live (h : AHeap) (l : Nat) : Prop := ∃ o, h[l]? = some o ∧ o ≠ .dead

def upd {α : Type} (f : Nat → α) (l : Nat) (x : α) : Nat → α := fun k => if k = l then x else f k
theorem upd_same {α : Type} (f : Nat → α) (l : Nat) (x : α) : upd f l x l = x := by simp [upd]
theorem upd_ne {α : Type} (f : Nat → α) {l k : Nat} (x : α) (h : k ≠ l) : upd f l x k = f k := by simp [upd, h]

def FrOk (fr : Nat × Nat) (n : Nat) : Prop := ∀ i, i < n → ¬ (fr.1 ≤ i ∧ i < fr.2)

structure ArrAt (E : Env) (H : Array Obj) (l : Nat) (cells : List AVal) (wr : Bool) (c : Array Value) (T : TypeId) (fr : Nat × Nat) : Prop where
  there : H[E.blk l]? = some (.cells c T fr)
  free : FrOk fr c.size
  mem : (E.blk l, cells.length, c.size) ∈ E.rho l
  le : cells.length ≤ c.size
  rel : RvL E cells (c.toList.take cells.length)
  fm : ∀ fc, E.fm (E.blk l) = some fc → fc.length ≤ cells.length
  own : wr = true → E.fm (E.blk l) = none ∧ ∀ x, x ∈ E.rho l → x = (E.blk l, cells.length, c.size)
  hist : ∀ x, x ∈ E.rho l → (x.2.1 ≤ cells.length ∧ x.1 = E.blk l ∧ x.2.2 = c.size) ∨
    (x.2.1 < cells.length ∧ ∃ fc, E.fm x.1 = some fc ∧ x.2.1 ≤ fc.length ∧ RvL E (cells.take x.2.1) (fc.take x.2.1))

def ArrOk (E : Env) (H : Array Obj) (l : Nat) (cells : List AVal) (wr : Bool) : Prop := ∃ c T fr, ArrAt E H l cells wr c T fr

inductive MpL (E : Env) : List (AVal × AVal) → List MapEntry → Prop
  | nil : MpL E [] []
  | cons {k v : AVal} {es : List (AVal × AVal)} {e : MapEntry} {es' : List MapEntry} (hk : Rv E k e.key) (hv : Rv E v e.val) (h : MpL E es es') : MpL E ((k, v) :: es) (e :: es')

def MpOk (E : Env) (H : Array Obj) (l : Nat) (es : List (AVal × AVal)) : Prop :=
  ∃ (es' : Array MapEntry) (clock : Nat), H[E.blk l]? = some (.map es' clock) ∧ E.rho l = [(E.blk l, 0, 0)] ∧ MpL E es es'.toList ∧ E.fm (E.blk l) = none ∧
    (∀ e, e ∈ es'.toList → e.born < clock) ∧ es'.toList.Pairwise (fun a b => a.born ≠ b.born)

structure Good (E : Env) (h : AHeap) (H : Array Obj) : Prop where
  fm : ∀ b c, E.fm b = some c → ∃ c' T fr, H[b]? = some (.cells c' T fr) ∧ c <+: c'.toList
  arr : ∀ l cells wr, h[l]? = some (.arr cells wr) → ArrOk E H l cells wr
  mp : ∀ l es, h[l]? = some (.mp es) → MpOk E H l es
  inj : ∀ l l', Live h l → Live h l' → E.blk l = E.blk l' → l = l'
  dead : ∀ l, ¬ Live h l → E.rho l = []

structure Ext (E : Env) (h : AHeap) (H : Array Obj) (E' : Env) (h' : AHeap) (H' : Array Obj) : Prop where
  le : E.Le E'
  size : H.size ≤ H'.size
  len : h.length ≤ h'.length
  frame : ∀ b, b < H.size → (∀ l, Live h l → E.blk l ≠ b) → H'[b]? = H[b]? ∧ E'.fm b = E.fm b
  blk : ∀ l, Live h' l → (Live h l ∧ E'.blk l = E.blk l) ∨ H.size ≤ E'.blk l

theorem Ext.refl (E : Env) (h : AHeap) (H : Array Obj) : Ext E h H E h H :=
  ⟨.refl E, Nat.le_refl _, Nat.le_refl _, fun _ _ _ => ⟨rfl, rfl⟩, fun _ hl => .inl ⟨hl, rfl⟩⟩

theorem Ext.trans {E h H E1 h1 H1 E2 h2 H2} (p : Ext E h H E1 h1 H1) (q : Ext E1 h1 H1 E2 h2 H2) : Ext E h H E2 h2 H2 where
  le := p.le.trans q.le
  size := Nat.le_trans p.size q.size
  len := Nat.le_trans p.len q.len
  frame b hb hl := by
    obtain ⟨a1, a2⟩ := p.frame b hb hl
    obtain ⟨b1, b2⟩ := q.frame b (Nat.lt_of_lt_of_le hb p.size) (fun l hl1 e => by
      rcases p.blk l hl1 with ⟨hl0, he⟩ | hge
      · exact hl l hl0 (he ▸ e)
      · omega)
    exact ⟨b1.trans a1, b2.trans a2⟩
  blk l hl := by
    rcases q.blk l hl with ⟨hl1, he1⟩ | hge
    · rcases p.blk l hl1 with ⟨hl0, he0⟩ | hge
      · exact .inl ⟨hl0, he1.trans he0⟩
      · exact .inr (he1 ▸ hge)
    · exact .inr (Nat.le_trans p.size hge)

theorem MpL.mono {E E' : Env} (h : E.Le E') : ∀ {a : List (AVal × AVal)} {b : List MapEntry}, MpL E a b → MpL E' a b
  | _, _, .nil => .nil
  | _, _, .cons hk hv g => .cons (Rv.mono h hk) (Rv.mono h hv) (MpL.mono h g)

theorem Good.live_arr {h : AHeap} {l : Nat} {cells : List AVal} {wr : Bool} (e : h[l]? = some (.arr cells wr)) : Live h l := ⟨_, e, by simp⟩
theorem Good.live_mp {h : AHeap} {l : Nat} {es : List (AVal × AVal)} (e : h[l]? = some (.mp es)) : Live h l := ⟨_, e, by simp⟩

theorem Good.blk_lt {E h H} (g : Good E h H) {l : Nat} (hl : Live h l) : E.blk l < H.size := by
  obtain ⟨o, ho, hne⟩ := hl
  cases o with
  | dead => exact absurd rfl hne
  | arr cells wr =>
    obtain ⟨c, T, fr, a⟩ := g.arr l cells wr ho
    exact (Array.getElem?_eq_some_iff.1 a.there).1
  | mp es =>
    obtain ⟨es', cl, a, _⟩ := g.mp l es ho
    exact (Array.getElem?_eq_some_iff.1 a).1

theorem Good.fm_lt {E h H} (g : Good E h H) {b : Nat} {c : List Value} (hb : E.fm b = some c) : b < H.size := by
  obtain ⟨c', T, fr, hc, _⟩ := g.fm b c hb
  exact (Array.getElem?_eq_some_iff.1 hc).1

theorem Good.fm_push {E h H} (g : Good E h H) : E.fm H.size = none := by
  cases he : E.fm H.size with
  | none => rfl
  | some c => exact absurd (g.fm_lt he) (by omega)

theorem push_lt {H : Array Obj} {o : Obj} {b : Nat} (h : b < H.size) : (H.push o)[b]? = H[b]? := by
  rw [Array.getElem?_push]; simp [Nat.ne_of_lt h]
theorem push_size {H : Array Obj} {o : Obj} : (H.push o)[H.size]? = some o := by
  rw [Array.getElem?_push]; simp

theorem Env.le_upd {E : Env} {l b : Nat} {xs : List (Nat × Nat × Nat)} (hr : E.rho l = []) : E.Le { E with rho := upd E.rho l xs, blk := upd E.blk l b } :=
  ⟨fun _ c h => ⟨c, h, List.prefix_refl c⟩, fun k x hx => by
    by_cases hk : k = l
    · subst hk; rw [hr] at hx; simp at hx
    · simpa [upd, hk] using hx⟩

/-- an object is moved to a later environment and a later heap that have kept what it stands on -/
theorem ArrAt.keep {E E' : Env} {H H' : Array Obj} {l : Nat} {cells : List AVal} {wr : Bool} {c : Array Value} {T : TypeId} {fr : Nat × Nat}
    (a : ArrAt E H l cells wr c T fr) (le : E.Le E') (hb : E'.blk l = E.blk l) (hr : E'.rho l = E.rho l) (hH : H'[E.blk l]? = H[E.blk l]?)
    (hfm : E'.fm (E.blk l) = E.fm (E.blk l)) : ArrAt E' H' l cells wr c T fr where
  there := by rw [hb, hH]; exact a.there
  free := a.free
  mem := by rw [hb, hr]; exact a.mem
  le := a.le
  rel := RvL.mono le a.rel
  fm fc h := a.fm fc (by rw [hb, hfm] at h; exact h)
  own h := by rw [hb, hr, hfm]; exact a.own h
  hist x hx := by
    rw [hr] at hx
    rw [hb]
    rcases a.hist x hx with h | ⟨h1, fc, h2, h3, h4⟩
    · exact .inl h
    · obtain ⟨fc', g1, g2⟩ := le.fm _ _ h2
      refine .inr ⟨h1, fc', g1, Nat.le_trans h3 g2.length_le, ?_⟩
      obtain ⟨t, rfl⟩ := g2
      rw [List.take_append_of_le_length h3]
      exact RvL.mono le h4

theorem MpOk.keep {E E' : Env} {H H' : Array Obj} {l : Nat} {es : List (AVal × AVal)} (a : MpOk E H l es) (le : E.Le E') (hb : E'.blk l = E.blk l)
    (hr : E'.rho l = E.rho l) (hH : H'[E.blk l]? = H[E.blk l]?) (hfm : E'.fm (E.blk l) = E.fm (E.blk l)) : MpOk E' H' l es := by
  obtain ⟨es', cl, h1, h2, h3, h4, h5⟩ := a
  exact ⟨es', cl, by rw [hb, hH]; exact h1, by rw [hr, hb]; exact h2, MpL.mono le h3, by rw [hb, hfm]; exact h4, h5⟩

/-- the objects that lie elsewhere are kept -/
theorem Good.others {E E' : Env} {h h' : AHeap} {H H' : Array Obj} (g : Good E h H) (L : Nat → Prop) (le : E.Le E')
    (hh : ∀ l, ¬ L l → h'[l]? = h[l]?) (hb : ∀ l, ¬ L l → E'.blk l = E.blk l) (hr : ∀ l, ¬ L l → E'.rho l = E.rho l)
    (hH : ∀ l, ¬ L l → Live h l → H'[E.blk l]? = H[E.blk l]? ∧ E'.fm (E.blk l) = E.fm (E.blk l))
    (hfm : ∀ b c, E'.fm b = some c → ∃ c' T fr, H'[b]? = some (.cells c' T fr) ∧ c <+: c'.toList)
    (harr : ∀ l cells wr, L l → h'[l]? = some (.arr cells wr) → ArrOk E' H' l cells wr)
    (hmp : ∀ l es, L l → h'[l]? = some (.mp es) → MpOk E' H' l es)
    (hinj : ∀ l l', L l → Live h' l → Live h' l' → E'.blk l = E'.blk l' → l = l')
    (hdead : ∀ l, L l → ¬ Live h' l → E'.rho l = []) : Good E' h' H' where
  fm := hfm
  arr l cells wr e := by
    by_cases hl : L l
    · exact harr l cells wr hl e
    · rw [hh l hl] at e
      obtain ⟨c, T, fr, a⟩ := g.arr l cells wr e
      obtain ⟨k1, k2⟩ := hH l hl (Good.live_arr e)
      exact ⟨c, T, fr, a.keep le (hb l hl) (hr l hl) k1 k2⟩
  mp l es e := by
    by_cases hl : L l
    · exact hmp l es hl e
    · rw [hh l hl] at e
      obtain ⟨k1, k2⟩ := hH l hl (Good.live_mp e)
      exact (g.mp l es e).keep le (hb l hl) (hr l hl) k1 k2
  inj l l' h1 h2 e := by
    by_cases hl : L l
    · exact hinj l l' hl h1 h2 e
    · by_cases hl' : L l'
      · exact (hinj l' l hl' h2 h1 e.symm).symm
      · rw [hb l hl, hb l' hl'] at e
        have f1 : Live h l := by obtain ⟨o, h3, h4⟩ := h1; exact ⟨o, by rw [← hh l hl]; exact h3, h4⟩
        have f2 : Live h l' := by obtain ⟨o, h3, h4⟩ := h2; exact ⟨o, by rw [← hh l' hl']; exact h3, h4⟩
        exact g.inj l l' f1 f2 e
  dead l hd := by
    by_cases hl : L l
    · exact hdead l hl hd
    · rw [hr l hl]
      exact g.dead l fun ⟨o, h3, h4⟩ => hd ⟨o, by rw [hh l hl]; exact h3, h4⟩

/-! ### a new block -/
theorem good_new {E : Env} {h h' : AHeap} {H : Array Obj} (g : Good E h H) {l : Nat} {cells : List AVal} {c : Array Value} {T : TypeId} {fr : Nat × Nat}
    (hl : h'[l]? = some (.arr cells true)) (hne : ∀ k, k ≠ l → h'[k]? = h[k]?) (hd : ¬ Live h l) (hlen : h.length ≤ h'.length)
    (hle : cells.length ≤ c.size) (hrel : RvL E cells (c.toList.take cells.length)) (hfr : FrOk fr c.size) :
    ∃ E', E.Le E' ∧ E'.fm = E.fm ∧ (∀ k, k ≠ l → E'.blk k = E.blk k ∧ E'.rho k = E.rho k) ∧ E'.blk l = H.size ∧ E'.rho l = [(H.size, cells.length, c.size)] ∧
      Good E' h' (H.push (.cells c T fr)) ∧ Ext E h H E' h' (H.push (.cells c T fr)) := by
  let E' : Env := { E with rho := upd E.rho l [(H.size, cells.length, c.size)], blk := upd E.blk l H.size }
  have hr0 : E.rho l = [] := g.dead l hd
  have le : E.Le E' := Env.le_upd hr0
  have hb : ∀ k, k ≠ l → E'.blk k = E.blk k := fun k hk => upd_ne _ _ hk
  have hr : ∀ k, k ≠ l → E'.rho k = E.rho k := fun k hk => upd_ne _ _ hk
  have hbl : E'.blk l = H.size := upd_same _ _ _
  have hrl : E'.rho l = [(H.size, cells.length, c.size)] := upd_same _ _ _
  refine ⟨E', le, rfl, fun k hk => ⟨hb k hk, hr k hk⟩, hbl, hrl, ?_, ?_⟩
  · refine g.others (fun k => k = l) le hne hb hr (fun k hk hlv => ⟨push_lt (g.blk_lt hlv), rfl⟩) ?_ ?_ ?_ ?_ ?_
    · intro b fc hfc
      obtain ⟨c', T', fr', h1, h2⟩ := g.fm b fc hfc
      exact ⟨c', T', fr', by rw [push_lt (g.fm_lt hfc)]; exact h1, h2⟩
    · rintro k cells' wr rfl e
      rw [hl] at e
      simp only [Option.some.injEq, AObj.arr.injEq] at e
      obtain ⟨rfl, rfl⟩ := e
      refine ⟨c, T, fr, ?_, hfr, ?_, hle, RvL.mono le hrel, ?_, ?_, ?_⟩
      · rw [hbl]; exact push_size
      · rw [hbl, hrl]; simp
      · intro fc hfc
        rw [hbl] at hfc
        exact absurd (g.fm_lt (show E.fm H.size = some fc from hfc)) (by omega)
      · intro _
        rw [hbl]
        exact ⟨g.fm_push, fun x hx => by rw [hrl] at hx; simpa using hx⟩
      · intro x hx
        rw [hrl] at hx
        simp only [List.mem_singleton] at hx
        subst hx
        exact .inl ⟨Nat.le_refl _, hbl.symm, rfl⟩
    · rintro k es rfl e
      rw [hl] at e; simp at e
    · rintro k k' rfl h1 h2 e
      by_cases hk : k' = k
      · exact hk.symm
      · rw [hbl, hb k' hk] at e
        have f2 : Live h k' := by obtain ⟨o, h3, h4⟩ := h2; exact ⟨o, by rw [← hne k' hk]; exact h3, h4⟩
        have := g.blk_lt f2
        omega
    · rintro k rfl hdd
      exact absurd ⟨_, hl, by simp⟩ hdd
  · refine ⟨le, by simp, hlen, fun b hbb _ => ⟨push_lt hbb, rfl⟩, fun k hk => ?_⟩
    by_cases hkl : k = l
    · subst hkl; exact .inr (by rw [hbl]; exact Nat.le_refl _)
    · refine .inl ⟨?_, hb k hkl⟩
      obtain ⟨o, h3, h4⟩ := hk
      exact ⟨o, by rw [← hne k hkl]; exact h3, h4⟩

/-! ### reading cells -/
theorem ArrAt.read {E : Env} {h : AHeap} {H : Array Obj} (g : Good E h H) {l : Nat} {cells : List AVal} {wr : Bool} (e : h[l]? = some (.arr cells wr))
    {b n tot : Nat} (hm : (b, n, tot) ∈ E.rho l) : ∃ c T fr, H[b]? = some (.cells c T fr) ∧ n ≤ cells.length ∧ n ≤ c.size ∧ RvL E (cells.take n) (c.toList.take n) := by
  obtain ⟨c, T, fr, a⟩ := g.arr l cells wr e
  rcases a.hist _ hm with ⟨h1, h2, h3⟩ | ⟨h1, fc, h2, h3, h4⟩
  · simp only at h1 h2 h3
    subst h2
    refine ⟨c, T, fr, a.there, h1, Nat.le_trans h1 a.le, ?_⟩
    have := a.rel.take n
    rwa [List.take_take, Nat.min_eq_left h1] at this
  · simp only at h1 h2 h3 h4
    obtain ⟨c', T', fr', k1, k2⟩ := g.fm _ _ h2
    refine ⟨c', T', fr', k1, Nat.le_of_lt h1, ?_, ?_⟩
    · have := k2.length_le; simp at this; omega
    · obtain ⟨t, ht⟩ := k2
      rw [← ht, List.take_append_of_le_length h3]; exact h4

end Go.Proofs.Ae

/-
  Writing into an object, adding to its end in place or in a new block, and sealing it.
-/
import Derived.Test.YtjfdjendaagccaaAe1
namespace Go.Proofs.Ae
open Go

theorem set_same {H : Array Obj} {b : Nat} {o : Obj} (h : b < H.size) : (H.setIfInBounds b o)[b]? = some o := by
  simp [h]
theorem set_other {H : Array Obj} {b k : Nat} {o : Obj} (h : k ≠ b) : (H.setIfInBounds b o)[k]? = H[k]? := by
  rw [Array.getElem?_setIfInBounds_ne (Ne.symm h)]

theorem list_set_same {h : AHeap} {l : Nat} {o : AObj} (hl : Live h l) : (h.set l o)[l]? = some o := by
  obtain ⟨_, h1, _⟩ := hl
  have : l < h.length := (List.getElem?_eq_some_iff.1 h1).1
  simp [this]
theorem list_set_other {h : AHeap} {l k : Nat} {o : AObj} (hk : k ≠ l) : (h.set l o)[k]? = h[k]? := by
  rw [List.getElem?_set_ne (Ne.symm hk)]

/-- the common part: object l, the one that owns block b, gets other contents; nothing else changes but b's block -/
theorem good_put {E E' : Env} {h : AHeap} {H : Array Obj} (g : Good E h H) {l : Nat} {o : AObj} {ob : Obj} (hl : Live h l) (ho : o ≠ .dead) (le : E.Le E')
    (hb : E'.blk = E.blk) (hr : ∀ k, k ≠ l → E'.rho k = E.rho k) (hf : ∀ b, b ≠ E.blk l → E'.fm b = E.fm b)
    (hfm : ∀ c, E'.fm (E.blk l) = some c → ∃ c' T fr, ob = .cells c' T fr ∧ c <+: c'.toList)
    (harr : ∀ cells wr, o = .arr cells wr → ArrOk E' (H.setIfInBounds (E.blk l) ob) l cells wr)
    (hmp : ∀ es, o = .mp es → MpOk E' (H.setIfInBounds (E.blk l) ob) l es) :
    Good E' (h.set l o) (H.setIfInBounds (E.blk l) ob) ∧ Ext E h H E' (h.set l o) (H.setIfInBounds (E.blk l) ob) := by
  have hlt := g.blk_lt hl
  have live' : ∀ k, Live (h.set l o) k → Live h k := fun k ⟨x, h1, h2⟩ => by
    by_cases hk : k = l
    · subst hk; exact hl
    · rw [list_set_other hk] at h1; exact ⟨x, h1, h2⟩
  refine ⟨g.others (fun k => k = l) le (fun k hk => list_set_other hk) (fun k _ => by rw [hb]) hr ?_ ?_ ?_ ?_ ?_ ?_, le, by simp, by simp, ?_, ?_⟩
  · intro k hk hlv
    have hne : E.blk k ≠ E.blk l := fun e => hk (g.inj k l hlv hl e)
    exact ⟨set_other hne, hf _ hne⟩
  · intro b c hc
    by_cases hbl : b = E.blk l
    · subst hbl
      obtain ⟨c', T, fr, rfl, hp⟩ := hfm c hc
      exact ⟨c', T, fr, set_same hlt, hp⟩
    · rw [hf b hbl] at hc
      rw [set_other hbl]
      exact g.fm b c hc
  · rintro k cells wr rfl e
    rw [list_set_same hl] at e
    exact harr cells wr (by simpa using e)
  · rintro k es rfl e
    rw [list_set_same hl] at e
    exact hmp es (by simpa using e)
  · rintro k k' rfl h1 h2 e
    rw [hb] at e
    exact g.inj k k' (live' _ h1) (live' _ h2) e
  · rintro k rfl hd
    exact absurd ⟨o, list_set_same hl, ho⟩ hd
  · intro b hbb hn
    have hne : b ≠ E.blk l := fun e => hn l hl e.symm
    exact ⟨set_other hne, hf b hne⟩
  · intro k hk
    exact .inl ⟨live' k hk, by rw [hb]⟩

/-- a store -/
theorem good_write {E : Env} {h : AHeap} {H : Array Obj} (g : Good E h H) {l : Nat} {cells cells' : List AVal} (e : h[l]? = some (.arr cells true))
    {c c' : Array Value} {T : TypeId} {fr : Nat × Nat} (a : ArrAt E H l cells true c T fr) (hs : c'.size = c.size) (hlen : cells'.length = cells.length)
    (hrel : RvL E cells' (c'.toList.take cells.length)) :
    Good E (h.set l (.arr cells' true)) (H.setIfInBounds (E.blk l) (.cells c' T fr)) ∧
      Ext E h H E (h.set l (.arr cells' true)) (H.setIfInBounds (E.blk l) (.cells c' T fr)) := by
  have hl := Good.live_arr e
  have hfn := (a.own rfl).1
  refine good_put g hl (by simp) (.refl E) rfl (fun _ _ => rfl) (fun _ _ => rfl) (fun fc hfc => by rw [hfn] at hfc; simp at hfc) ?_ (by intro es h; simp at h)
  intro x wr hx
  simp only [AObj.arr.injEq] at hx
  obtain ⟨rfl, rfl⟩ := hx
  refine ⟨c', T, fr, set_same (g.blk_lt hl), by rw [hs]; exact a.free, by rw [hs, hlen]; exact a.mem, by rw [hs, hlen]; exact a.le, by rw [hlen]; exact hrel, by rw [hlen]; exact a.fm, ?_, ?_⟩
  · intro _; rw [hs, hlen]; exact a.own rfl
  · intro x hx
    have := (a.own rfl).2 x hx
    subst this
    exact .inl ⟨by simp [hlen], rfl, hs.symm⟩

/-- adding to the end, in place -/
theorem good_onto {E : Env} {h : AHeap} {H : Array Obj} (g : Good E h H) {l : Nat} {cells new : List AVal} {wr : Bool} (e : h[l]? = some (.arr cells wr))
    {c c' : Array Value} {T : TypeId} {fr : Nat × Nat} (a : ArrAt E H l cells wr c T fr) (hs : c'.size = c.size) (hroom : cells.length + new.length ≤ c.size)
    (hold : c'.toList.take cells.length = c.toList.take cells.length) (hrel : RvL E new ((c'.toList.drop cells.length).take new.length)) :
    ∃ E', E.Le E' ∧ E'.fm = E.fm ∧ E'.blk = E.blk ∧ (∀ k, k ≠ l → E'.rho k = E.rho k) ∧ (E.blk l, cells.length + new.length, c.size) ∈ E'.rho l ∧
      Good E' (h.set l (.arr (cells ++ new) false)) (H.setIfInBounds (E.blk l) (.cells c' T fr)) ∧
      Ext E h H E' (h.set l (.arr (cells ++ new) false)) (H.setIfInBounds (E.blk l) (.cells c' T fr)) := by
  have hl := Good.live_arr e
  let E' : Env := { E with rho := upd E.rho l ((E.blk l, cells.length + new.length, c.size) :: E.rho l) }
  have hr : ∀ k, k ≠ l → E'.rho k = E.rho k := fun k hk => upd_ne _ _ hk
  have hrl : E'.rho l = (E.blk l, cells.length + new.length, c.size) :: E.rho l := upd_same _ _ _
  have le : E.Le E' := ⟨fun _ c h => ⟨c, h, List.prefix_refl c⟩, fun k x hx => by
    by_cases hk : k = l
    · subst hk; rw [hrl]; exact List.mem_cons_of_mem _ hx
    · rw [hr k hk]; exact hx⟩
  have hpre : ∀ n, n ≤ cells.length → c'.toList.take n = c.toList.take n := fun n hn => by
    have := congrArg (List.take n) hold
    rwa [List.take_take, List.take_take, Nat.min_eq_left hn] at this
  have hgood := good_put (E' := E') (ob := .cells c' T fr) (o := .arr (cells ++ new) false) g hl (by simp) le rfl hr (fun _ _ => rfl) ?_ ?_ (by intro es h; simp at h)
  · exact ⟨E', le, rfl, rfl, hr, by rw [hrl]; exact .head _, hgood.1, hgood.2⟩
  · intro fc hfc
    refine ⟨c', T, fr, rfl, ?_⟩
    obtain ⟨c0, T0, fr0, h1, h2⟩ := g.fm _ fc hfc
    rw [a.there] at h1
    simp only [Option.some.injEq, Obj.cells.injEq] at h1
    obtain ⟨rfl, -, -⟩ := h1
    have hfl := a.fm fc hfc
    rw [List.prefix_iff_eq_take] at h2 ⊢
    rw [hpre _ hfl]; exact h2
  · intro x wr' hx
    simp only [AObj.arr.injEq] at hx
    obtain ⟨rfl, rfl⟩ := hx
    have hcl : cells.length ≤ c'.toList.length := by simp; omega
    refine ⟨c', T, fr, set_same (g.blk_lt hl), by rw [hs]; exact a.free, ?_, by simp; omega, ?_, ?_, by simp, ?_⟩
    · rw [hrl, hs]; simp only [List.length_append]; exact .head _
    · have h1 : c'.toList.take (cells ++ new).length = c'.toList.take cells.length ++ (c'.toList.drop cells.length).take new.length := by
        rw [List.length_append, List.take_add]
      rw [h1, hold]
      exact (RvL.mono le a.rel).append (RvL.mono le hrel)
    · intro fc hfc
      have := a.fm fc hfc
      simp; omega
    · intro x hx
      rw [hrl] at hx
      rcases List.mem_cons.1 hx with rfl | hx
      · exact .inl ⟨by simp, rfl, hs.symm⟩
      · rcases a.hist x hx with ⟨h1, h2, h3⟩ | ⟨h1, fc, h2, h3, h4⟩
        · exact .inl ⟨by simp; omega, h2, h3.trans hs.symm⟩
        · refine .inr ⟨by simp; omega, fc, h2, h3, ?_⟩
          rw [List.take_append_of_le_length (by omega)]
          exact RvL.mono le h4

/-- adding to the end, in a new block -/
theorem good_grow {E : Env} {h : AHeap} {H : Array Obj} (g : Good E h H) {l : Nat} {cells new : List AVal} {wr : Bool} (e : h[l]? = some (.arr cells wr))
    {c c' : Array Value} {T T' : TypeId} {fr : Nat × Nat} (a : ArrAt E H l cells wr c T fr) (hnew : 0 < new.length) (hroom : cells.length + new.length ≤ c'.size)
    (hold : c'.toList.take cells.length = c.toList.take cells.length) (hrel : RvL E new ((c'.toList.drop cells.length).take new.length)) :
    ∃ E', E.Le E' ∧ (H.size, cells.length + new.length, c'.size) ∈ E'.rho l ∧
      Good E' (h.set l (.arr (cells ++ new) false)) (H.push (.cells c' T' (0, 0))) ∧
      Ext E h H E' (h.set l (.arr (cells ++ new) false)) (H.push (.cells c' T' (0, 0))) := by
  have hl := Good.live_arr e
  let E' : Env := { fm := upd E.fm (E.blk l) (some (c.toList.take cells.length)), rho := upd E.rho l ((H.size, cells.length + new.length, c'.size) :: E.rho l), blk := upd E.blk l H.size }
  have hr : ∀ k, k ≠ l → E'.rho k = E.rho k := fun k hk => upd_ne _ _ hk
  have hrl : E'.rho l = (H.size, cells.length + new.length, c'.size) :: E.rho l := upd_same _ _ _
  have hb : ∀ k, k ≠ l → E'.blk k = E.blk k := fun k hk => upd_ne _ _ hk
  have hbl : E'.blk l = H.size := upd_same _ _ _
  have hf : ∀ b, b ≠ E.blk l → E'.fm b = E.fm b := fun k hk => upd_ne _ _ hk
  have hfl : E'.fm (E.blk l) = some (c.toList.take cells.length) := upd_same _ _ _
  have hlt := g.blk_lt hl
  have le : E.Le E' := ⟨fun b fc hfc => by
    by_cases hbb : b = E.blk l
    · subst hbb
      refine ⟨_, hfl, ?_⟩
      obtain ⟨c0, T0, fr0, h1, h2⟩ := g.fm _ fc hfc
      rw [a.there] at h1
      simp only [Option.some.injEq, Obj.cells.injEq] at h1
      obtain ⟨rfl, -, -⟩ := h1
      have hfl := a.fm fc hfc
      rw [List.prefix_iff_eq_take] at h2 ⊢
      rw [List.take_take, Nat.min_eq_left hfl]; exact h2
    · exact ⟨fc, by rw [hf b hbb]; exact hfc, List.prefix_refl _⟩, fun k x hx => by
    by_cases hk : k = l
    · subst hk; rw [hrl]; exact List.mem_cons_of_mem _ hx
    · rw [hr k hk]; exact hx⟩
  have live' : ∀ k, Live (h.set l (.arr (cells ++ new) false)) k → Live h k := fun k ⟨x, h1, h2⟩ => by
    by_cases hk : k = l
    · subst hk; exact hl
    · rw [list_set_other hk] at h1; exact ⟨x, h1, h2⟩
  refine ⟨E', le, by rw [hrl]; exact .head _, g.others (fun k => k = l) le (fun k hk => list_set_other hk) hb hr ?_ ?_ ?_ ?_ ?_ ?_, le, by simp, by simp, ?_, ?_⟩
  · intro k hk hlv
    have hne : E.blk k ≠ E.blk l := fun e => hk (g.inj k l hlv hl e)
    exact ⟨push_lt (g.blk_lt hlv), hf _ hne⟩
  · intro b fc hfc
    by_cases hbb : b = E.blk l
    · subst hbb
      rw [hfl] at hfc
      simp only [Option.some.injEq] at hfc
      subst hfc
      exact ⟨c, T, fr, by rw [push_lt hlt]; exact a.there, List.take_prefix _ _⟩
    · rw [hf b hbb] at hfc
      obtain ⟨c0, T0, fr0, h1, h2⟩ := g.fm b fc hfc
      exact ⟨c0, T0, fr0, by rw [push_lt (g.fm_lt hfc)]; exact h1, h2⟩
  · rintro k x wr' rfl ex
    rw [list_set_same hl] at ex
    simp only [Option.some.injEq, AObj.arr.injEq] at ex
    obtain ⟨rfl, rfl⟩ := ex
    refine ⟨c', T', (0, 0), by rw [hbl]; exact push_size, fun i _ h => by simp at h, by rw [hbl, hrl]; simp, by simpa using hroom, ?_, ?_, by simp, ?_⟩
    · have h1 : c'.toList.take (cells ++ new).length = c'.toList.take cells.length ++ (c'.toList.drop cells.length).take new.length := by
        rw [List.length_append, List.take_add]
      rw [h1, hold]
      exact (RvL.mono le a.rel).append (RvL.mono le hrel)
    · intro fc hfc
      rw [hbl, hf _ (by omega), g.fm_push] at hfc
      simp at hfc
    · intro x hx
      rw [hrl] at hx
      rcases List.mem_cons.1 hx with rfl | hx
      · exact .inl ⟨by simp, hbl.symm, rfl⟩
      · rcases a.hist x hx with ⟨h1, h2, h3⟩ | ⟨h1, fc, h2, h3, h4⟩
        · refine .inr ⟨by simp; omega, c.toList.take cells.length, by rw [h2]; exact hfl, by simp; have := a.le; omega, ?_⟩
          rw [List.take_append_of_le_length h1, List.take_take, Nat.min_eq_left h1]
          have := (RvL.mono le a.rel).take x.2.1
          rwa [List.take_take, Nat.min_eq_left h1] at this
        · obtain ⟨fc', g1, g2⟩ := le.fm _ _ h2
          refine .inr ⟨by simp; omega, fc', g1, Nat.le_trans h3 g2.length_le, ?_⟩
          rw [List.take_append_of_le_length (by omega)]
          obtain ⟨t, rfl⟩ := g2
          rw [List.take_append_of_le_length h3]
          exact RvL.mono le h4
  · rintro k es rfl ex
    rw [list_set_same hl] at ex; simp at ex
  · rintro k k' rfl h1 h2 ee
    by_cases hk : k' = k
    · exact hk.symm
    · rw [hbl, hb k' hk] at ee
      have := g.blk_lt (live' _ h2)
      omega
  · rintro k rfl hd
    exact absurd ⟨_, list_set_same hl, by simp⟩ hd
  · intro b hbb hn
    exact ⟨push_lt hbb, hf b fun ee => hn l hl ee.symm⟩
  · intro k hk
    by_cases hkl : k = l
    · subst hkl; exact .inr (by rw [hbl]; exact Nat.le_refl _)
    · exact .inl ⟨live' k hk, hb k hkl⟩

/-- sealing: the object is not written any more; what it holds is frozen -/
theorem good_seal {E : Env} {h : AHeap} {H : Array Obj} (g : Good E h H) {l : Nat} {cells : List AVal} {wr : Bool} (e : h[l]? = some (.arr cells wr)) :
    ∃ E', E.Le E' ∧ E'.rho = E.rho ∧ E'.blk = E.blk ∧ Good E' (h.set l (.arr cells false)) H ∧ Ext E h H E' (h.set l (.arr cells false)) H ∧
      (∀ x, x ∈ E.rho l → ∃ fc, E'.fm x.1 = some fc ∧ x.2.1 ≤ fc.length ∧ x.2.1 ≤ cells.length ∧ RvL E' (cells.take x.2.1) (fc.take x.2.1)) := by
  have hl := Good.live_arr e
  obtain ⟨c, T, fr, a⟩ := g.arr l cells wr e
  let E' : Env := { E with fm := upd E.fm (E.blk l) (some (c.toList.take cells.length)) }
  have hf : ∀ b, b ≠ E.blk l → E'.fm b = E.fm b := fun k hk => upd_ne _ _ hk
  have hfl : E'.fm (E.blk l) = some (c.toList.take cells.length) := upd_same _ _ _
  have hlt := g.blk_lt hl
  have le : E.Le E' := ⟨fun b fc hfc => by
    by_cases hbb : b = E.blk l
    · subst hbb
      refine ⟨_, hfl, ?_⟩
      obtain ⟨c0, T0, fr0, h1, h2⟩ := g.fm _ fc hfc
      rw [a.there] at h1
      simp only [Option.some.injEq, Obj.cells.injEq] at h1
      obtain ⟨rfl, -, -⟩ := h1
      have hfl := a.fm fc hfc
      rw [List.prefix_iff_eq_take] at h2 ⊢
      rw [List.take_take, Nat.min_eq_left hfl]; exact h2
    · exact ⟨fc, by rw [hf b hbb]; exact hfc, List.prefix_refl _⟩, fun k x hx => hx⟩
  have hH : H.setIfInBounds (E.blk l) (.cells c T fr) = H := by
    apply Array.ext_getElem?
    intro i
    by_cases hi : i = E.blk l
    · subst hi; rw [set_same hlt, a.there]
    · exact set_other hi
  have key := good_put (E' := E') (ob := .cells c T fr) (o := .arr cells false) g hl (by simp) le rfl (fun _ _ => rfl) hf ?_ ?_ (by intro es h; simp at h)
  · rw [hH] at key
    refine ⟨E', le, rfl, rfl, key.1, key.2, fun x hx => ?_⟩
    rcases a.hist x hx with ⟨h1, h2, h3⟩ | ⟨h1, fc, h2, h3, h4⟩
    · refine ⟨_, by rw [h2]; exact hfl, by simp; have := a.le; omega, h1, ?_⟩
      rw [List.take_take, Nat.min_eq_left h1]
      have := (RvL.mono le a.rel).take x.2.1
      rwa [List.take_take, Nat.min_eq_left h1] at this
    · obtain ⟨fc', g1, g2⟩ := le.fm _ _ h2
      refine ⟨fc', g1, Nat.le_trans h3 g2.length_le, by omega, ?_⟩
      obtain ⟨t, rfl⟩ := g2
      rw [List.take_append_of_le_length h3]
      exact RvL.mono le h4
  · intro fc hfc
    rw [hfl] at hfc
    simp only [Option.some.injEq] at hfc
    subst hfc
    exact ⟨c, T, fr, rfl, List.take_prefix _ _⟩
  · intro x wr' hx
    simp only [AObj.arr.injEq] at hx
    obtain ⟨rfl, rfl⟩ := hx
    rw [hH]
    refine ⟨c, T, fr, a.there, a.free, a.mem, a.le, RvL.mono le a.rel, ?_, by simp, ?_⟩
    · intro fc hfc
      rw [show E'.blk l = E.blk l from rfl, hfl] at hfc
      simp only [Option.some.injEq] at hfc
      subst hfc
      simp; omega
    · intro x hx
      rcases a.hist x hx with h | ⟨h1, fc, h2, h3, h4⟩
      · exact .inl h
      · obtain ⟨fc', g1, g2⟩ := le.fm _ _ h2
        refine .inr ⟨h1, fc', g1, Nat.le_trans h3 g2.length_le, ?_⟩
        obtain ⟨t, rfl⟩ := g2
        rw [List.take_append_of_le_length h3]
        exact RvL.mono le h4

end Go.Proofs.Ae

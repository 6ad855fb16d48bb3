/-
  What is dropped at the head of a loop: the values of the round before, and the objects that nothing names any more.
-/
import Derived.Test.YtjfdjendaagccaaAeFb
namespace Go.Proofs.Ae
open Go

/-- an environment that may forget what is not below k -/
structure ExtK (k : Nat) (E : Env) (h : AHeap) (H : Array Obj) (E' : Env) (h' : AHeap) (H' : Array Obj) : Prop where
  fm : ∀ b c, E.fm b = some c → ∃ c', E'.fm b = some c' ∧ c <+: c'
  rho : ∀ l x, l < k → x ∈ E.rho l → x ∈ E'.rho l
  size : H.size ≤ H'.size
  len : k ≤ h.length → k ≤ h'.length
  frame : ∀ b, b < H.size → (∀ l, Live h l → E.blk l ≠ b) → H'[b]? = H[b]? ∧ E'.fm b = E.fm b
  blk : ∀ l, l < k → Live h' l → (Live h l ∧ E'.blk l = E.blk l) ∨ H.size ≤ E'.blk l
  blkN : ∀ l, k ≤ l → Live h' l → (∃ l0, k ≤ l0 ∧ Live h l0 ∧ E'.blk l = E.blk l0) ∨ H.size ≤ E'.blk l

theorem ExtK.own {k E h H E' h' H'} (x : ExtK k E h H E' h' H') (l : Nat) (hl : Live h' l) : (∃ l0, Live h l0 ∧ E'.blk l = E.blk l0) ∨ H.size ≤ E'.blk l := by
  by_cases hk : l < k
  · rcases x.blk l hk hl with ⟨h1, h2⟩ | h1
    · exact .inl ⟨l, h1, h2⟩
    · exact .inr h1
  · rcases x.blkN l (by omega) hl with ⟨l0, _, h1, h2⟩ | h1
    · exact .inl ⟨l0, h1, h2⟩
    · exact .inr h1

theorem Ext.toK {E h H E' h' H'} (x : Ext E h H E' h' H') (k : Nat) : ExtK k E h H E' h' H' :=
  ⟨x.le.fm, fun l y _ hy => x.le.rho l y hy, x.size, fun hk => Nat.le_trans hk x.len, x.frame, fun l _ hl => x.blk l hl, fun l hk hl => by
    rcases x.blk l hl with ⟨h1, h2⟩ | h1
    · exact .inl ⟨l, hk, h1, h2⟩
    · exact .inr h1⟩

theorem ExtK.trans {k E h H E1 h1 H1 E2 h2 H2} (p : ExtK k E h H E1 h1 H1) (q : ExtK k E1 h1 H1 E2 h2 H2) : ExtK k E h H E2 h2 H2 where
  fm b c hc := by
    obtain ⟨c1, h1, p1⟩ := p.fm b c hc
    obtain ⟨c2, h2, p2⟩ := q.fm b c1 h1
    exact ⟨c2, h2, p1.trans p2⟩
  rho l x hl hx := q.rho l x hl (p.rho l x hl hx)
  size := Nat.le_trans p.size q.size
  len hk := q.len (p.len hk)
  frame b hb hl := by
    obtain ⟨a1, a2⟩ := p.frame b hb hl
    obtain ⟨b1, b2⟩ := q.frame b (Nat.lt_of_lt_of_le hb p.size) (fun l hl1 e => by
      rcases p.own l hl1 with ⟨l0, hl0, he⟩ | hge
      · exact hl l0 hl0 (he ▸ e)
      · omega)
    exact ⟨b1.trans a1, b2.trans a2⟩
  blk l hk hl := by
    rcases q.blk l hk hl with ⟨hl1, he1⟩ | hge
    · rcases p.blk l hk hl1 with ⟨hl0, he0⟩ | hge
      · exact .inl ⟨hl0, he1.trans he0⟩
      · exact .inr (he1 ▸ hge)
    · exact .inr (Nat.le_trans p.size hge)
  blkN l hk hl := by
    rcases q.blkN l hk hl with ⟨l1, hk1, hl1, he1⟩ | hge
    · rcases p.blkN l1 hk1 hl1 with ⟨l0, hk0, hl0, he0⟩ | hge
      · exact .inl ⟨l0, hk0, hl0, he1.trans he0⟩
      · exact .inr (he1 ▸ hge)
    · exact .inr (Nat.le_trans p.size hge)

theorem ExtK.toExt {E h H E' h' H'} (x : ExtK h.length E h H E' h' H') (g : Good E h H) : Ext E h H E' h' H' where
  le := ⟨x.fm, fun l y hy => by
    by_cases hl : l < h.length
    · exact x.rho l y hl hy
    · rw [g.dead l (fun ⟨o, ho, _⟩ => hl (List.getElem?_eq_some_iff.1 ho).1)] at hy
      simp at hy⟩
  size := x.size
  len := x.len (Nat.le_refl _)
  frame := x.frame
  blk l hl := by
    by_cases hk : l < h.length
    · exact x.blk l hk hl
    · rcases x.blkN l (by omega) hl with ⟨l0, h1, ⟨o, ho, _⟩, _⟩ | h1
      · have := (List.getElem?_eq_some_iff.1 ho).1
        omega
      · exact .inr h1

def clearT (live : List Nat) : Nat → List AVal → List AVal
  | _, [] => []
  | i, v :: vs => (if live.contains i = true then v else .top) :: clearT live (i + 1) vs

theorem rvl_clear {E : Env} (live : List Nat) : ∀ (i : Nat) {t : List AVal} {vs : List Value}, RvL E t vs → RvL E (clearT live i t) vs
  | _, _, _, .nil => .nil
  | i, _, _, .cons g gs => by
    simp only [clearT]
    refine .cons ?_ (rvl_clear live (i + 1) gs)
    split
    · exact g
    · exact .top _

structure GcI where
  k : Nat
  live : Nat → Option (List Nat)

/-- the number of a piece's first region -/
def Code.head : Code → Nat
  | .region id _ _ => id
  | .seq a _ => Code.head a
  | .block _ b => Code.head b
  | .loop b => Code.head b
  | _ => 0

/-- the objects that go on, in the order in which they are named -/
def gcSet (k : Nat) (t : List AVal) (h : AHeap) : List Nat := reach 8 h ((locsL t).foldl addN (List.range k))

def gcTo (k : Nat) (L : List Nat) (t : List AVal) (h : AHeap) : Option (List AVal × AHeap) :=
  if L.Nodup ∧ L.take k = List.range k then match mapVL (relocIn false L) t, subHeap h L L with
    | some t', some h' => some (t', h')
    | _, _ => none
  else none

def aGc (gi : GcI) (c : Code) (t : List AVal) (h : AHeap) : List AVal × AHeap :=
  match gi.live (Code.head c) with
  | none => (t, h)
  | some live => (gcTo gi.k (gcSet gi.k (clearT live 0 t) h) (clearT live 0 t) h).getD (t, h)

theorem good_gcTo {k : Nat} {L : List Nat} {t t' : List AVal} {h h' : AHeap} {E : Env} {H : Array Obj} {vs : List Value} (g : Good E h H) (ht : RvL E t vs) (hr : gcTo k L t h = some (t', h')) :
    Good (E.sub L) h' H ∧ RvL (E.sub L) t' vs ∧ ExtK k E h H (E.sub L) h' H := by
  unfold gcTo at hr
  split at hr
  · rename_i hc
    obtain ⟨hn, hk⟩ := hc
    split at hr
    · rename_i t1 h1 hm hs
      simp only [Option.some.injEq, Prod.mk.injEq] at hr
      obtain ⟨rfl, rfl⟩ := hr
      obtain ⟨s1, s2⟩ := subHeap_spec hs
      have hkl : k ≤ L.length := by
        have := congrArg List.length hk
        simp at this
        omega
      have hget : ∀ l, l < k → L[l]? = some l := fun l hl => by
        rw [← List.getElem?_take_of_lt hl, hk, List.getElem?_range hl]
      have hlive : ∀ i, Live h1 i → ∃ l, L[i]? = some l ∧ Live h l := fun i ⟨o, ho, _⟩ => by
        have hi : i < L.length := by rw [← s1]; exact (List.getElem?_eq_some_iff.1 ho).1
        obtain ⟨o1, o2, k1, k2, _, _⟩ := s2 i _ (List.getElem?_eq_getElem hi)
        exact ⟨_, List.getElem?_eq_getElem hi, o1, k1, k2⟩
      refine ⟨good_sub g hn hs, mapVL_rel (relocIn_ok false E L) hm ht, ⟨fun b c hc => ⟨c, hc, List.prefix_refl c⟩, fun l x hl hx => ?_, Nat.le_refl _, fun _ => by omega, fun b _ _ => ⟨rfl, rfl⟩, ?_, ?_⟩⟩
      · simp only [Env.sub, hget l hl]; exact hx
      · intro l hl hv
        obtain ⟨l0, k1, k2⟩ := hlive l hv
        rw [hget l hl] at k1
        simp only [Option.some.injEq] at k1
        subst k1
        exact .inl ⟨k2, by simp only [Env.sub, hget l hl]⟩
      · intro l hl hv
        obtain ⟨l0, k1, k2⟩ := hlive l hv
        refine .inl ⟨l0, ?_, k2, by simp only [Env.sub, k1]⟩
        have h3 := pos_of_get hn k1
        by_cases hlt : l0 < k
        · have := pos_of_get hn (hget l0 hlt)
          rw [h3] at this
          simp only [Option.some.injEq] at this
          omega
        · omega
    · simp at hr
  · simp at hr

theorem good_gc {gi : GcI} {c : Code} {t : List AVal} {h : AHeap} {E : Env} {H : Array Obj} {vs : List Value} (g : Good E h H) (ht : RvL E t vs) :
    ∃ E', Good E' (aGc gi c t h).2 H ∧ RvL E' (aGc gi c t h).1 vs ∧ ExtK gi.k E h H E' (aGc gi c t h).2 H := by
  unfold aGc
  split
  · exact ⟨E, g, ht, (Ext.refl E h H).toK _⟩
  · rename_i live _
    cases hr : gcTo gi.k (gcSet gi.k (clearT live 0 t) h) (clearT live 0 t) h with
    | none => exact ⟨E, g, ht, (Ext.refl E h H).toK _⟩
    | some x =>
      obtain ⟨t', h'⟩ := x
      obtain ⟨a1, a2, a3⟩ := good_gcTo g (rvl_clear live 0 ht) hr
      exact ⟨_, a1, a2, a3⟩

end Go.Proofs.Ae

/-
  Values carried from one heap to another: freezing, and renumbering the objects.
-/
import Derived.Test.YtjfdjendaagccaaAeA
namespace Go.Proofs.Ae
open Go

/-- the one form of a nil slice that passes from function to function -/
def canS : Value → AVal
  | .slice none 0 0 => .fs [] 0 none
  | v => .sc v

theorem rv_canS {E : Env} (v : Value) : Rv E (canS v) v := by
  unfold canS
  split
  · exact .fsn _ (fun _ h => by simp at h)
  · exact .sc _

structure Hd where
  cn : Bool
  ptr : Nat → Nat → Nat → Option AVal
  ms : Nat → Nat → Nat → Nat → Nat → Bool → Option AVal
  mp : Nat → Option AVal

mutual
def mapV (k : Hd) : AVal → Option AVal
  | .sc v => some (if k.cn = true then canS v else .sc v)
  | .fs cells len cap => some (.fs cells len (if k.cn = true then none else cap))
  | .fp cells => some (.fp cells)
  | .top => some .top
  | .ms l off len sz lo ex => k.ms l off len sz lo ex
  | .ptr l off lim => k.ptr l off lim
  | .mp l => k.mp l
  | .agg cs => match mapVL k cs with
    | some cs' => some (.agg cs')
    | none => none
  | .tup cs => match mapVL k cs with
    | some cs' => some (.tup cs')
    | none => none
  | .ifc t v => match mapV k v with
    | some v' => some (.ifc t v')
    | none => none
  | .clo fn fi ca => match mapVL k fi, mapVL k ca with
    | some fi', some ca' => some (.clo fn fi' ca')
    | _, _ => none
def mapVL (k : Hd) : List AVal → Option (List AVal)
  | [] => some []
  | a :: as => match mapV k a, mapVL k as with
    | some a', some as' => some (a' :: as')
    | _, _ => none
end

/-- what the handlers owe: what came of an object's value in E reads in E' as the same -/
structure Hd.Ok (k : Hd) (E E' : Env) : Prop where
  fm : ∀ b c, E.fm b = some c → E'.fm b = some c
  ptr : ∀ l off lim a v, k.ptr l off lim = some a → Rv E (.ptr l off lim) v → Rv E' a v
  ms : ∀ l off len sz lo ex a v, k.ms l off len sz lo ex = some a → Rv E (.ms l off len sz lo ex) v → Rv E' a v
  mp : ∀ l a v, k.mp l = some a → Rv E (.mp l) v → Rv E' a v

theorem Env.pure_le_of {E E' : Env} (h : ∀ b c, E.fm b = some c → E'.fm b = some c) : E.pure.Le E'.pure :=
  ⟨fun b c hc => ⟨c, h b c hc, List.prefix_refl c⟩, fun _ _ hx => hx⟩

mutual
theorem mapV_rel {k : Hd} : ∀ {E E' : Env} {a a' : AVal} {v : Value}, k.Ok E E' → mapV k a = some a' → Rv E a v → Rv E' a' v
  | _, _, .sc _, _, _, hk, h, .sc _ => by
    simp only [mapV, Option.some.injEq] at h; subst h
    split
    · exact rv_canS _
    · exact .sc _
  | _, _, .top, _, _, hk, h, _ => by simp only [mapV, Option.some.injEq] at h; subst h; exact .top _
  | _, _, .fs _ _ _, _, _, hk, h, .fs0 _ _ _ hc => by
    simp only [mapV, Option.some.injEq] at h; subst h
    exact .fs0 _ _ _ fun c hcc => by split at hcc <;> first | exact hc c hcc | simp at hcc
  | _, _, .fs _ _ _, _, _, hk, h, .fsn _ hc => by
    simp only [mapV, Option.some.injEq] at h; subst h
    exact .fsn _ fun c hcc => by split at hcc <;> first | exact hc c hcc | simp at hcc
  | _, _, .fs _ _ _, _, _, hk, h, .fs _ _ _ b off cap' c vs hl hc hb hp hv => by
    simp only [mapV, Option.some.injEq] at h; subst h
    exact .fs _ _ _ _ _ _ _ _ hl (fun c hcc => by split at hcc <;> first | exact hc c hcc | simp at hcc) (hk.fm _ _ hb) hp (RvL.mono (Env.pure_le_of hk.fm) hv)
  | _, _, .fp _, _, _, hk, h, .fp _ b off c vs hb hp hv => by
    simp only [mapV, Option.some.injEq] at h; subst h
    exact .fp _ _ _ _ _ (hk.fm _ _ hb) hp (RvL.mono (Env.pure_le_of hk.fm) hv)
  | _, _, .ms .., _, _, hk, h, g => hk.ms _ _ _ _ _ _ _ _ (by simpa only [mapV] using h) g
  | _, _, .ptr .., _, _, hk, h, g => hk.ptr _ _ _ _ _ (by simpa only [mapV] using h) g
  | _, _, .mp _, _, _, hk, h, g => hk.mp _ _ _ (by simpa only [mapV] using h) g
  | _, _, .agg cs, _, _, hk, h, .agg _ vs hv => by
    simp only [mapV] at h
    split at h
    · rename_i cs' hcs
      simp only [Option.some.injEq] at h; subst h
      exact .agg _ _ (mapVL_rel hk hcs hv)
    · simp at h
  | _, _, .tup cs, _, _, hk, h, .tup _ vs hv => by
    simp only [mapV] at h
    split at h
    · rename_i cs' hcs
      simp only [Option.some.injEq] at h; subst h
      exact .tup _ _ (mapVL_rel hk hcs hv)
    · simp at h
  | _, _, .ifc t a, _, _, hk, h, .ifc _ _ v hv => by
    simp only [mapV] at h
    split at h
    · rename_i a' ha
      simp only [Option.some.injEq] at h; subst h
      exact .ifc _ _ _ (mapV_rel hk ha hv)
    · simp at h
  | _, _, .clo fn fi ca, _, _, hk, h, .clo _ _ _ fv cv hf hc => by
    simp only [mapV] at h
    split at h
    · rename_i fi' ca' hfi hca
      simp only [Option.some.injEq] at h; subst h
      exact .clo _ _ _ _ _ (mapVL_rel hk hfi hf) (mapVL_rel hk hca hc)
    · simp at h
theorem mapVL_rel {k : Hd} : ∀ {E E' : Env} {as as' : List AVal} {vs : List Value}, k.Ok E E' → mapVL k as = some as' → RvL E as vs → RvL E' as' vs
  | _, _, [], _, _, hk, h, .nil => by simp only [mapVL, Option.some.injEq] at h; subst h; exact .nil
  | _, _, a :: as, _, _, hk, h, .cons g gs => by
    simp only [mapVL] at h
    split at h
    · rename_i a' as' ha has
      simp only [Option.some.injEq] at h; subst h
      exact .cons (mapV_rel hk ha g) (mapVL_rel hk has gs)
    · simp at h
end

theorem mapVL_length {k : Hd} : ∀ {as as' : List AVal}, mapVL k as = some as' → as'.length = as.length
  | [], _, h => by simp only [mapVL, Option.some.injEq] at h; subst h; rfl
  | a :: as, _, h => by
    simp only [mapVL] at h
    split at h
    · rename_i a' as' ha has
      simp only [Option.some.injEq] at h; subst h
      simp [mapVL_length has]
    · simp at h

def mapE (k : Hd) : List (AVal × AVal) → Option (List (AVal × AVal))
  | [] => some []
  | (x, y) :: r => match mapV k x, mapV k y, mapE k r with
    | some x', some y', some r' => some ((x', y') :: r')
    | _, _, _ => none

def mapObj (k : Hd) : AObj → Option AObj
  | .dead => some .dead
  | .arr cells w => match mapVL k cells with
    | some cells' => some (.arr cells' w)
    | none => none
  | .mp es => match mapE k es with
    | some es' => some (.mp es')
    | none => none

theorem mapE_rel {k : Hd} {E E' : Env} (hk : k.Ok E E') : ∀ {es es' : List (AVal × AVal)} {l : List MapEntry}, mapE k es = some es' → MpL E es l → MpL E' es' l
  | [], _, _, h, .nil => by simp only [mapE, Option.some.injEq] at h; subst h; exact .nil
  | (x, y) :: r, _, _, h, .cons hx hy hr => by
    simp only [mapE] at h
    split at h
    · rename_i x' y' r' h1 h2 h3
      simp only [Option.some.injEq] at h; subst h
      exact .cons (mapV_rel hk h1 hx) (mapV_rel hk h2 hy) (mapE_rel hk h3 hr)
    · simp at h

/-! ### freezing -/
def noHd : Hd := ⟨true, fun _ _ _ => none, fun _ _ _ _ _ _ => none, fun _ => none⟩

def frz : Nat → AHeap → AVal → Option AVal
  | 0, _ => mapV noHd
  | n + 1, h => mapV { noHd with ms := fun l off len sz lo ex => match h[l]? with
      | some (.arr content false) =>
        if off + len * sz ≤ content.length then
          match (((content.drop off).take (len * sz)).mapM (frz n h)) with
          | some cs => some (.fs cs len none)
          | none => none
        else none
      | _ => none }

/-- what is not written any more is frozen -/
def Sealed (E : Env) (h : AHeap) : Prop := ∀ l cells, h[l]? = some (.arr cells false) → ∀ x, x ∈ E.rho l →
  ∃ fc, E.fm x.1 = some fc ∧ x.2.1 ≤ fc.length ∧ x.2.1 ≤ cells.length ∧ RvL E (cells.take x.2.1) (fc.take x.2.1)

theorem mapM_rel {E E' : Env} {f : AVal → Option AVal} (hf : ∀ a a' v, f a = some a' → Rv E a v → Rv E' a' v) : ∀ {as as' : List AVal} {vs : List Value}, as.mapM f = some as' → RvL E as vs → RvL E' as' vs
  | [], _, _, h, .nil => by simp at h; subst h; exact .nil
  | a :: as, _, _, h, .cons g gs => by
    simp only [List.mapM_cons, Option.bind_eq_bind, Option.pure_def] at h
    cases ha : f a with
    | none => simp [ha] at h
    | some a' =>
      cases has : as.mapM f with
      | none => simp [ha, has] at h
      | some as' =>
        simp only [ha, has, Option.bind_some, Option.some.injEq] at h
        subst h
        exact .cons (hf _ _ _ ha g) (mapM_rel hf has gs)

theorem noHd_ok (E E' : Env) (hfm : ∀ b c, E.fm b = some c → E'.fm b = some c) : noHd.Ok E E' :=
  ⟨hfm, fun _ _ _ _ _ h => by simp [noHd] at h, fun _ _ _ _ _ _ _ _ h => by simp [noHd] at h, fun _ _ _ h => by simp [noHd] at h⟩

theorem frz_rel {E : Env} {h : AHeap} (hs : Sealed E h) : ∀ (n : Nat) {a a' : AVal} {v : Value}, frz n h a = some a' → Rv E a v → Rv E.pure a' v
  | 0, _, _, _, hf, g => mapV_rel (noHd_ok E E.pure fun _ _ h => h) hf g
  | n + 1, a, a', v, hf, g => by
    refine mapV_rel (E := E) (E' := E.pure) ⟨fun _ _ h => h, fun _ _ _ _ _ h => by simp [noHd] at h, ?_, fun _ _ _ h => by simp [noHd] at h⟩ hf g
    intro l off len sz lo ex x u hx hu
    simp only at hx
    split at hx
    · rename_i content e
      split at hx
      · rename_i hle
        split at hx
        · rename_i cs hcs
          simp only [Option.some.injEq] at hx
          subst hx
          cases hu with
          | ms _ _ _ _ _ _ b n' tot cap' hm hn ht hl hlo hc =>
            obtain ⟨fc, h1, h2, h3, h4⟩ := hs l content e _ hm
            simp only at h1 h2 h3 h4
            have hrel : RvL E ((content.drop off).take (len * sz)) ((fc.drop off).take (len * sz)) := by
              have := (h4.drop off).take (len * sz)
              rw [List.drop_take, List.drop_take, List.take_take, List.take_take, Nat.min_eq_left (by omega)] at this
              exact this
            have := mapM_rel (fun a a' v h g => frz_rel hs n h g) hcs hrel
            refine .fs _ _ _ _ _ _ fc _ (by omega) ?_ h1 (List.take_prefix _ _) this
            intro c hcc
            simp at hcc
        · simp at hx
      · simp at hx
    · simp at hx

/-- every object that is not written any more can be taken as frozen -/
theorem good_sealAll {E : Env} {h : AHeap} {H : Array Obj} (g : Good E h H) : ∃ E', E.Le E' ∧ E'.rho = E.rho ∧ E'.blk = E.blk ∧ Good E' h H ∧ Ext E h H E' h H ∧ Sealed E' h := by
  have key : ∀ n, ∃ E', E.Le E' ∧ E'.rho = E.rho ∧ E'.blk = E.blk ∧ Good E' h H ∧ Ext E h H E' h H ∧
      ∀ l, l < n → ∀ cells, h[l]? = some (.arr cells false) → ∀ x, x ∈ E'.rho l → ∃ fc, E'.fm x.1 = some fc ∧ x.2.1 ≤ fc.length ∧ x.2.1 ≤ cells.length ∧ RvL E' (cells.take x.2.1) (fc.take x.2.1) := by
    intro n
    induction n with
    | zero => exact ⟨E, .refl E, rfl, rfl, g, .refl _ _ _, fun l hl => by omega⟩
    | succ n ih =>
      obtain ⟨E1, le1, r1, b1, g1, x1, s1⟩ := ih
      by_cases hn : ∃ cells, h[n]? = some (.arr cells false)
      · obtain ⟨cells, e⟩ := hn
        obtain ⟨E2, le2, r2, b2, g2, x2, s2⟩ := good_seal g1 e
        have hset : h.set n (.arr cells false) = h := by
          apply List.ext_getElem?
          intro i
          by_cases hi : i = n
          · subst hi
            obtain ⟨hlt, hget⟩ := List.getElem?_eq_some_iff.1 e
            simp [hlt, hget]
          · rw [List.getElem?_set_ne (Ne.symm hi)]
        rw [hset] at g2 x2
        refine ⟨E2, le1.trans le2, r2.trans r1, b2.trans b1, g2, x1.trans x2, fun l hl cells' e' x hx => ?_⟩
        by_cases hln : l = n
        · subst hln
          rw [e] at e'
          simp only [Option.some.injEq, AObj.arr.injEq, and_true] at e'
          subst e'
          exact s2 x (by rw [← r2]; exact hx)
        · obtain ⟨fc, q1, q2, q3, q4⟩ := s1 l (by omega) cells' e' x (by rw [← r2]; exact hx)
          obtain ⟨fc', p1, p2⟩ := le2.fm _ _ q1
          refine ⟨fc', p1, Nat.le_trans q2 p2.length_le, q3, ?_⟩
          obtain ⟨t, rfl⟩ := p2
          rw [List.take_append_of_le_length q2]
          exact RvL.mono le2 q4
      · refine ⟨E1, le1, r1, b1, g1, x1, fun l hl cells' e' => ?_⟩
        by_cases hln : l = n
        · subst hln; exact absurd ⟨_, e'⟩ hn
        · exact s1 l (by omega) cells' e'
  obtain ⟨E', h1, h2, h3, h4, h5, h6⟩ := key h.length
  refine ⟨E', h1, h2, h3, h4, h5, fun l cells e => h6 l ?_ cells e⟩
  exact (List.getElem?_eq_some_iff.1 e).1

/-- objects marked as not written any more -/
def mark1 (h : AHeap) (l : Nat) : AHeap := match h[l]? with
  | some (.arr cells _) => h.set l (.arr cells false)
  | _ => h
def markAll (h : AHeap) (L : List Nat) : AHeap := L.foldl mark1 h

theorem good_mark1 {E : Env} {h : AHeap} {H : Array Obj} (g : Good E h H) (l : Nat) : ∃ E', E.Le E' ∧ Good E' (mark1 h l) H ∧ Ext E h H E' (mark1 h l) H := by
  unfold mark1
  split
  · rename_i cells wr e
    obtain ⟨E', h1, _, _, h2, h3, _⟩ := good_seal g e
    exact ⟨E', h1, h2, h3⟩
  · exact ⟨E, .refl E, g, .refl _ _ _⟩

theorem good_markAll {H : Array Obj} : ∀ (L : List Nat) {E : Env} {h : AHeap}, Good E h H → ∃ E', E.Le E' ∧ Good E' (markAll h L) H ∧ Ext E h H E' (markAll h L) H
  | [], E, h, g => ⟨E, .refl E, g, .refl _ _ _⟩
  | l :: L, E, h, g => by
    obtain ⟨E1, a1, a2, a3⟩ := good_mark1 g l
    obtain ⟨E2, b1, b2, b3⟩ := good_markAll L a2
    exact ⟨E2, a1.trans b1, b2, a3.trans b3⟩

end Go.Proofs.Ae

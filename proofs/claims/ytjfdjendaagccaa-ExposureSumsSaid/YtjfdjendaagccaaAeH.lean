/-
  More fuel changes no answer; and the rules by which a run is put together from its parts.
-/
import Derived.Test.YtjfdjendaagccaaAeG
namespace Go.Proofs.Ae
open Go

def CallLe (c c' : CallF) : Prop := ∀ g a h r, c g a h = some r → c' g a h = some r

theorem CallLe.refl (c : CallF) : CallLe c c := fun _ _ _ _ h => h
theorem CallLe.trans {a b c : CallF} (h : CallLe a b) (g : CallLe b c) : CallLe a c := fun _ _ _ _ x => g _ _ _ _ (h _ _ _ _ x)

theorem aCore_mono {c c' : CallF} (hc : CallLe c c') {g : FuncId} {a : List AVal} {h : AHeap} {r : AEnd × Patch} (e : aCore c g a h = some r) : aCore c' g a h = some r := by
  unfold aCore at e ⊢
  dsimp only at e ⊢
  split at e
  · rename_i h1
    rw [if_pos h1]
    split at e
    · rename_i a2 s0 h2 h3
      split at e
      · rename_i e0 sub h4
        rw [hc _ _ _ _ h4]
        exact e
      · simp at e
    · simp at e
  · simp at e

theorem aInvoke_mono {C : Cfg} {c c' : CallF} (hc : CallLe c c') {g : FuncId} {a : List AVal} {h : AHeap} {r : AEnd × Patch} (e : aInvoke C c g a h = some r) : aInvoke C c' g a h = some r := by
  unfold aInvoke at e ⊢
  dsimp only at e ⊢
  split at e
  · rename_i e0 p h1
    rw [aCore_mono hc h1]
    exact e
  · simp at e

theorem callP_mono {C : Cfg} {c c' : CallF} (hc : CallLe c c') : CallLe (callP C c) (callP C c') := by
  intro g a h r e
  unfold callP at e ⊢
  split at e
  · rename_i e0 p hi
    rw [aInvoke_mono hc hi]
    exact e
  · simp at e

theorem aStep_mono {C : Cfg} {c c' : CallF} (hc : CallLe c c') {d : Bool} {h : AHeap} {s : Option Nat} {t : List AVal} {o : Oper} {r : AEnd × Patch} (e : aStep C c d h s t o = some r) :
    aStep C c' d h s t o = some r := by
  unfold aStep at e ⊢
  split at e
  · split at e
    · split at e
      · by_cases hd : d = true
        · rw [if_pos hd] at e ⊢; exact aCore_mono (callP_mono hc) e
        · rw [if_neg hd] at e ⊢; exact aInvoke_mono hc e
      · simp at e
    · simp at e
  · exact e
  · exact e
  · exact e

theorem aOps_mono {C : Cfg} {c c' : CallF} (hc : CallLe c c') {ops : Array Oper} : ∀ {l : List Oper} {t : List AVal} {h : AHeap} {r : AExit × List AVal × AHeap}, aOps C c ops l t h = some r → aOps C c' ops l t h = some r
  | [], _, _, _, e => e
  | o :: l, t, h, r, e => by
    simp only [aOps] at e ⊢
    split at e
    · exact aOps_mono hc e
    · split at e
      · rename_i v p h1
        rw [aStep_mono hc h1]
        exact aOps_mono hc e
      · rename_i v p h1
        rw [aStep_mono hc h1]
        exact e
      · simp at e
    · simp at e

theorem drawGo_mono {C : Cfg} {c c' : CallF} (hc : CallLe c c') {ops : Array Oper} : ∀ {l : List (Oper × Option Nat)} {t : List AVal} {h : AHeap} {r : List Ent}, drawGo C c ops l t h = some r → drawGo C c' ops l t h = some r
  | [], _, _, _, e => e
  | (o, s) :: l, t, h, r, e => by
    simp only [drawGo] at e ⊢
    split at e
    · rename_i h0
      rw [if_pos h0]
      split at e
      · split at e
        · rename_i es h1
          rw [drawGo_mono hc h1]
          exact e
        · simp at e
      · split at e
        · rename_i v p h1
          rw [aStep_mono hc h1]
          dsimp only
          split at e
          · rename_i h2
            rw [if_pos h2]
            split at e
            · rename_i es h3
              rw [drawGo_mono hc h3]
              exact e
            · simp at e
          · simp at e
        · simp at e
      · simp at e
    · simp at e

theorem aDraw_mono {C : Cfg} {c c' : CallF} (hc : CallLe c c') {ops : Array Oper} {t : List AVal} {h : AHeap} {r : AExit × List AVal × AHeap} (e : aDraw C c ops t h = some r) : aDraw C c' ops t h = some r := by
  unfold aDraw at e ⊢
  dsimp only at e ⊢
  split at e
  · rename_i es h1
    rw [drawGo_mono hc h1]
    exact e
  · simp at e

theorem aCode_mono {C : Cfg} {c c' : CallF} (hc : CallLe c c') {gi : GcI} : ∀ {n m : Nat} {k : Code} {t : List AVal} {h : AHeap} {r : AExit × List AVal × AHeap}, n ≤ m → aCode C c gi n k t h = some r → aCode C c' gi m k t h = some r
  | 0, _, _, _, _, _, _, e => by simp [aCode] at e
  | n + 1, 0, _, _, _, _, hn, _ => by omega
  | n + 1, m + 1, k, t, h, r, hn, e => by
    have hn' : n ≤ m := by omega
    cases k with
    | skip => exact e
    | label => exact e
    | region id ops d =>
      cases d with
      | false => simp only [aCode] at e ⊢; exact aOps_mono hc e
      | true => simp only [aCode] at e ⊢; exact aDraw_mono hc e
    | seq a b =>
      simp only [aCode] at e ⊢
      split at e
      · rename_i t1 h1 ha
        rw [aCode_mono hc hn' ha]
        exact aCode_mono hc hn' e
      · rename_i hx
        rw [aCode_mono hc hn' e]
        split
        · rename_i t1 h1 heq
          simp only [Option.some.injEq] at heq
          subst heq
          exact absurd e (hx _ _)
        · rfl
    | cond x a b =>
      simp only [aCode] at e ⊢
      split at e
      · exact aCode_mono hc hn' e
      · exact aCode_mono hc hn' e
      · simp at e
    | block id b =>
      simp only [aCode] at e ⊢
      split at e
      · rename_i t1 h1 ha
        rw [aCode_mono hc hn' ha]
        exact e
      · rename_i hx
        rw [aCode_mono hc hn' e]
        split
        · rename_i id' t1 h1 heq
          simp only [Option.some.injEq] at heq
          subst heq
          exact absurd e (hx _ _ _)
        · rfl
    | loop b =>
      simp only [aCode] at e ⊢
      split at e
      · rename_i t1 h1 ha
        rw [aCode_mono hc hn' ha]
        exact aCode_mono hc hn' e
      · rename_i hx
        rw [aCode_mono hc hn' e]
        split
        · rename_i t1 h1 heq
          simp only [Option.some.injEq] at heq
          subst heq
          exact absurd e (hx _ _)
        · rfl
    | exit => exact e
    | goto => exact e
    | ret => exact e
    | _ => simp [aCode] at e

theorem aCall_mono (C : Cfg) : ∀ {n m : Nat}, n ≤ m → CallLe (aCall C n) (aCall C m)
  | 0, _, _ => fun _ _ _ _ e => by simp [aCall] at e
  | n + 1, 0, hn => by omega
  | n + 1, m + 1, hn => fun f a h r e => by
    have hn' : n ≤ m := by omega
    simp only [aCall] at e ⊢
    split at e
    · simp at e
    · rename_i i hi
      split at e
      · rename_i v t' h' hc
        rw [aCode_mono (aCall_mono C hn') hn' hc]
        exact e
      · rename_i t' h' hc
        rw [aCode_mono (aCall_mono C hn') hn' hc]
        exact e
      · rename_i t' h' hc
        rw [aCode_mono (aCall_mono C hn') hn' hc]
        exact e
      · simp at e

end Go.Proofs.Ae

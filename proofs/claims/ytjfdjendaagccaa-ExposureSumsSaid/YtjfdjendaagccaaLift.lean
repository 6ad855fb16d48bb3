/-
  From the abstract run to the model's runs.
-/
import Derived.Test.YtjfdjendaagccaaWhole
namespace Go.Proofs.Ytjfdjendaagccaa
open Go Go.Proofs Go.Proofs.Ae
set_option linter.unusedSimpArgs false
set_option linter.unusedVariables false
set_option linter.unnecessarySimpa false

/-- the environment in which one block is frozen -/
def env1 (b : Nat) (c : List Value) : Env := { fm := fun k => if k = b then some c else none, rho := fun _ => [], blk := fun _ => 0 }
def env0 : Env := { fm := fun _ => none, rho := fun _ => [], blk := fun _ => 0 }

theorem good_env0 (H : Array Obj) : Good env0 [] H where
  fm b c h := by simp [env0] at h
  arr l cells wr h := by simp at h
  mp l es h := by simp at h
  inj l l' h := by obtain ⟨o, h1, _⟩ := h; simp at h1
  dead l _ := rfl

theorem good_env1 {H : Array Obj} {b : Nat} {c : Array Value} {T : TypeId} {fr : Nat × Nat} (h : H[b]? = some (.cells c T fr)) : Good (env1 b c.toList) [] H where
  fm k c' hk := by
    simp only [env1] at hk
    split at hk
    · rename_i e
      subst e
      simp only [Option.some.injEq] at hk
      subst hk
      exact ⟨c, T, fr, h, List.prefix_refl _⟩
    · simp at hk
  arr l cells wr h := by simp at h
  mp l es h := by simp at h
  inj l l' h := by obtain ⟨o, h1, _⟩ := h; simp at h1
  dead l _ := rfl

/-- what a call of the statement comes to -/
def SumsPost (W : World) : Ending → World → Prop := fun e W' => e = .returned (.bool true) ∧ W.heap.size ≤ W'.heap.size ∧ (∀ b, b < W.heap.size → W'.heap[b]? = W.heap[b]?) ∧ WSame W W'

theorem sums_of {E : Env} {W : World} (g : Good E [] W.heap) {L : List UInt8} {v : Value} (hv : Rv E (.fs (encB L) L.length none) v) : Calls Try.prog 3 #[v] W (SumsPost W) := by
  have hc := sums_call L
  cases hr : aCall C0 800 3 [.fs (encB L) L.length none] [] with
  | none => simp [hr] at hc
  | some x =>
    obtain ⟨e, h'⟩ := x
    simp only [hr, Option.map_some, Option.some.injEq] at hc
    subst hc
    refine Calls.mono (sound_call ok0 800 3 _ _ _ _ hr E W [v] g (.cons hv .nil)) fun e W' ⟨E', k1, k2, k3, k4⟩ => ?_
    cases k1 with
    | ret k1 =>
      cases k1
      exact ⟨rfl, k3.size, fun b hb => (k3.frame b hb fun l hl => by obtain ⟨o, h1, _⟩ := hl; simp at h1).1, k4⟩

end Go.Proofs.Ytjfdjendaagccaa

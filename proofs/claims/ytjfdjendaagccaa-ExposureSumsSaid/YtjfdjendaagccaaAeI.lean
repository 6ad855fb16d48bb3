/-
  The program's tables, as the abstract run reads them off the program itself.
-/
import Derived.Test.YtjfdjendaagccaaAeH
namespace Go.Proofs.Ae
open Go

def tyOf (P : Program) (t : TypeId) : Option TyI := match P.underlying t, P.info? t with
  | some d, some i => some { desc := d, size := i.size, bytes := i.bytes, zero := i.zero }
  | _, _ => none

def fnOf (P : Program) (live : FuncId → Nat → Option (List Nat)) (f : FuncId) : Option FnI := match P.funcs[f]? with
  | some fn => match fn.body with
    | some b => if (fn.name == "runtime.NumGoroutine") = true then none else some { ntmps := fn.ntmps, results := fn.results.toList, body := b, live := live f }
    | none => none
  | none => none

def cfgOf (P : Program) (live : FuncId → Nat → Option (List Nat)) (byRef : FuncId → Bool) : Cfg where
  P := P
  ty := tyOf P
  fn := fnOf P live
  byRef := byRef

theorem cfgOf_ok {P : Program} (hm : P.follows .mixedOrders = true) (live : FuncId → Nat → Option (List Nat)) (byRef : FuncId → Bool) : (cfgOf P live byRef).Ok where
  und t i h := by
    simp only [cfgOf, tyOf] at h
    split at h
    · rename_i d x h1 h2
      simp only [Option.some.injEq] at h
      subst h
      exact h1
    · simp at h
  info t i h := by
    simp only [cfgOf, tyOf] at h
    split at h
    · rename_i d x h1 h2
      simp only [Option.some.injEq] at h
      subst h
      exact ⟨x, h2, rfl, rfl, rfl⟩
    · simp at h
  fn f i h := by
    simp only [cfgOf, fnOf] at h
    split at h
    · rename_i fn hf
      split at h
      · rename_i b hb
        split at h
        · simp at h
        · simp only [Option.some.injEq] at h
          subst h
          exact ⟨fn, hf, hb, rfl, rfl⟩
      · simp at h
    · simp at h
  call f i h args w := by
    simp only [cfgOf, fnOf] at h
    split at h
    · rename_i fn hf
      split at h
      · rename_i b hb
        split at h
        · simp at h
        · rename_i hn
          simp only [cfgOf, callFunc, program, Sem.run_bind, Sem.run, hf, Result.andThen_ok]
          simp [hn, hb, Sem.run, bind, Sem.bind, pure, hf]
      · simp at h
    · simp at h
  mixed := hm

end Go.Proofs.Ae

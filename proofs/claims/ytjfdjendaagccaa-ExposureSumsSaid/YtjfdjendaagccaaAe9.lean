/-
  One operation of a region: what it yields, and what it does to the heap.
-/
import Derived.Test.YtjfdjendaagccaaAe8
namespace Go.Proofs.Ae
open Go

/-! ### the tables of slots -/
def aEval (tmps : List AVal) : Operand → AVal
  | .tmp t => tmps.getD t (.tup [])
  | .const v => ofVal v
  | .global g => .sc (.pointer (some ⟨g, 0, none⟩))
  | .func f => .clo (.func f) [] []

theorem rv_undef {E : Env} : Rv E (.tup []) undef := .tup _ _ .nil

theorem rv_eval {E : Env} {tmps : List AVal} {a : Act} (h : RvL E tmps a.tmps.toList) (x : Operand) : Rv E (aEval tmps x) (a.eval x) := by
  cases x with
  | tmp t =>
    simp only [aEval, Act.eval]
    by_cases ht : t < tmps.length
    · obtain ⟨v, h1, h2⟩ := h.get t tmps[t] (List.getElem?_eq_getElem ht)
      have h1' : a.tmps[t]? = some v := by simpa using h1
      rw [List.getD_eq_getElem?_getD, List.getElem?_eq_getElem ht, Array.getD_eq_getD_getElem?, h1']
      exact h2
    · have hl : tmps.length = a.tmps.size := by simpa using h.length
      have ht' : tmps.length ≤ t := Nat.le_of_not_lt ht
      rw [List.getD_eq_getElem?_getD, List.getElem?_eq_none ht', Array.getD_eq_getD_getElem?, Array.getElem?_eq_none (hl ▸ ht')]
      exact rv_undef
  | const v => exact rv_ofVal v
  | global g => exact .sc _
  | func f => exact .clo _ _ _ _ _ .nil .nil

theorem rvl_evals {E : Env} {tmps : List AVal} {a : Act} (h : RvL E tmps a.tmps.toList) : ∀ xs : List Operand, RvL E (xs.map (aEval tmps)) (xs.map a.eval)
  | [] => .nil
  | x :: xs => .cons (rv_eval h x) (rvl_evals h xs)

theorem rvp_evals {E : Env} {tmps : List AVal} {a : Act} (h : RvL E tmps a.tmps.toList) : ∀ ps : List (Nat × Operand), RvP E (ps.map fun p => (p.1, aEval tmps p.2)) (ps.map fun p => (p.1, a.eval p.2))
  | [] => .nil
  | p :: ps => .cons (rv_eval h p.2) (rvp_evals h ps)

theorem rvo_eval {E : Env} {tmps : List AVal} {a : Act} (h : RvL E tmps a.tmps.toList) (x : Option Operand) : RvO E (x.map (aEval tmps)) (x.map a.eval) := by
  cases x with
  | none => exact .none
  | some x => exact .some (rv_eval h x)

/-! ### operations on values without addresses: the model's own -/
def concEval (tmps : List AVal) (x : Operand) : Value := (conc (aEval tmps x)).getD undef

def aConc (C : Cfg) (o : Oper) (tmps : List AVal) : Option AVal :=
  if o.op.operands.toList.all (fun x => (conc (aEval tmps x)).isSome) = true then
    match pv C.P (execOp (concEval tmps) o) with
    | some (.value v) => some (ofVal v)
    | some .skip => some (.tup [])
    | _ => none
  else none

/-- what the run of a region's operation has to come to -/
def SoundN (P : Program) (s : Sem Next) (E : Env) (h : AHeap) (w : World) (r : AVal) (h' : AHeap) : Prop :=
  ∃ n v w' E', s.run P w = .ok n w' ∧ (n = .value v ∨ n = .skip ∧ v = undef) ∧ Rv E' r v ∧ Good E' h' w'.heap ∧ Ext E h w.heap E' h' w'.heap ∧ WSame w w'

theorem SoundN.of {P : Program} {s : Sem Value} {E : Env} {h h' : AHeap} {w : World} {r : AVal} (k : Sound P (fun E v => Rv E r v) s E h w h') :
    SoundN P (do pure (.value (← s))) E h w r h' := by
  obtain ⟨v, w', E', h1, h2, h3⟩ := k
  exact ⟨.value v, v, w', E', by simp [h1], .inl rfl, h2, h3⟩

theorem SoundN.ofUnit {P : Program} {s : Sem Unit} {E : Env} {h h' : AHeap} {w : World} (k : Sound P (fun _ (_ : Unit) => True) s E h w h') :
    SoundN P (do s; pure .skip) E h w (.tup []) h' := by
  obtain ⟨v, w', E', h1, h2, h3⟩ := k
  exact ⟨.skip, undef, w', E', by simp [h1], .inr ⟨rfl, rfl⟩, rv_undef, h3⟩

theorem SoundN.same {P : Program} {s : Sem Next} {E : Env} {h : AHeap} {w : World} {r : AVal} {v : Value} (g : Good E h w.heap) (hr : s.run P w = .ok (.value v) w) (hv : Rv E r v) :
    SoundN P s E h w r h := ⟨.value v, v, w, E, hr, .inl rfl, hv, g, .refl _ _ _, .refl _⟩

theorem sound_conc {C : Cfg} {E : Env} {h : AHeap} {w : World} (g : Good E h w.heap) {o : Oper} {tmps : List AVal} {a : Act} {r : AVal} (hns : ∀ cs b, o.op ≠ .select cs b)
    (hr : aConc C o tmps = some r) (ht : RvL E tmps a.tmps.toList) : SoundN C.P (execOp a.eval o) E h w r h := by
  unfold aConc at hr
  split at hr
  · rename_i hall
    have hcongr : execOp a.eval o = execOp (concEval tmps) o := execOp_congr o hns fun x hx => by
      have := List.all_eq_true.1 hall x (by simpa using hx)
      obtain ⟨u, hu⟩ := Option.isSome_iff_exists.1 this
      have := Rv.of_conc hu (rv_eval ht x)
      simp [concEval, hu, this]
    rw [hcongr]
    split at hr
    · rename_i v hv
      simp only [Option.some.injEq] at hr
      subst hr
      exact .same g (pv_run hv w) (rv_ofVal v)
    · rename_i hv
      simp only [Option.some.injEq] at hr
      subst hr
      exact ⟨.skip, undef, w, E, pv_run hv w, .inr ⟨rfl, rfl⟩, rv_undef, g, .refl _ _ _, .refl _⟩
    · simp at hr
  · simp at hr

/-! ### comparisons with nil -/
def AVal.solid : AVal → Bool
  | .fs .. | .fp .. | .ms .. | .ptr .. | .mp .. | .ifc .. | .clo .. => true
  | _ => false
def AVal.isNil : AVal → Bool
  | .sc (.slice none _ _) | .sc (.pointer none) | .sc .nilFunc | .sc .nilIface | .sc (.map none) => true
  | _ => false

/-- x == nil, where x is not nil -/
def aNilEq (C : Cfg) (t : TypeId) (x y : AVal) : Bool :=
  match C.ty t with
  | some i => match i.desc, x, y with
    | .slice _, .fs (_ :: _) _ _, .sc (.slice none _ _) | .slice _, .ms .., .sc (.slice none _ _) | .slice _, .sc (.slice none _ _), .fs (_ :: _) _ _ | .slice _, .sc (.slice none _ _), .ms .. => true
    | .pointer _, .ptr .., .sc (.pointer none) | .pointer _, .fp .., .sc (.pointer none) | .pointer _, .sc (.pointer none), .ptr .. | .pointer _, .sc (.pointer none), .fp .. => true
    | .func _ _ _, .clo .., .sc .nilFunc | .func _ _ _, .sc .nilFunc, .clo .. => true
    | .interface _, .ifc .., .sc .nilIface | .interface _, .sc .nilIface, .ifc .. => true
    | .map _ _, .mp _, .sc (.map none) | .map _ _, .sc (.map none), .mp _ => true
    | _, _, _ => false
  | none => false

theorem equal_eq (t : TypeId) (x y : Value) : Op.equal t x y = Op.equalIn (9999 + 1) t x y := rfl

theorem run_binEq {P : Program} {t : TypeId} {vx vy : Value} {w : World} {b : Bool} (he : ∀ d, (Op.equalIn (d + 1) t vx vy).run P w = .ok b w)
    (hg : ∀ op ox oy, (eqGuard op t ox oy vx vy).run P w = .ok () w) (h1 : binOp .eql t vx vy = (do pure (.bool (← Op.equal t vx vy)))) (h2 : binOp .neq t vx vy = (do pure (.bool (!(← Op.equal t vx vy))))) (ox oy : Operand) :
    (do eqGuard .eql t ox oy vx vy; binOp .eql t vx vy : Sem Value).run P w = .ok (.bool b) w ∧
    (do eqGuard .neq t ox oy vx vy; binOp .neq t vx vy : Sem Value).run P w = .ok (.bool (!b)) w := by
  rw [h1, h2, equal_eq]
  constructor <;> simp only [Sem.run_bind, hg, he, Result.andThen_ok, Sem.run_pure]

theorem run_nilEq {C : Cfg} (ok : C.Ok) {E : Env} {t : TypeId} {x y : AVal} {vx vy : Value} (h : aNilEq C t x y = true) (hx : Rv E x vx) (hy : Rv E y vy) (w : World) (ox oy : Operand) :
    (do eqGuard .eql t ox oy vx vy; binOp .eql t vx vy : Sem Value).run C.P w = .ok (.bool false) w ∧
    (do eqGuard .neq t ox oy vx vy; binOp .neq t vx vy : Sem Value).run C.P w = .ok (.bool true) w := by
  unfold aNilEq at h
  split at h
  · rename_i i hi
    have hu := run_underlying ok hi w
    split at h <;> rename_i hd <;> (try (simp at h; done)) <;> cases hx <;> cases hy <;>
      exact run_binEq (b := false) (fun d => by simp [Op.equalIn, hu, hd]) (fun op ox oy => by simp [eqGuard]) rfl rfl ox oy
  · simp at h

end Go.Proofs.Ae

/-
  The operations of a region, one after the other.
-/
import Derived.Test.YtjfdjendaagccaaAeD
namespace Go.Proofs.Ae
open Go

def aStep (C : Cfg) (call : CallF) (d : Bool) (h : AHeap) (slot : Option Nat) (t : List AVal) (o : Oper) : Option (AEnd × Patch) :=
  match o.op with
  | .call { callee := .value f, args, argTypes := _ } => match aEval t f with
    | .clo (.func g) fi ca => match C.fn g with
      | some _ => if d = true then aCore (callP C call) g (fi ++ args.toList.map (aEval t) ++ ca) h else aInvoke C call g (fi ++ args.toList.map (aEval t) ++ ca) h
      | none => none
    | _ => none
  | .panic x => match aEval t x with
    | .ifc ty v => some (.pan (.ifc ty v), [])
    | .sc (.iface ty v) => some (.pan (.sc (.iface ty v)), [])
    | _ => none
  | .select _ _ => none
  | _ => match aOp C h slot t o with
    | some (v, p) => some (.ret v, p)
    | none => none

theorem sound_step {C : Cfg} (ok : C.Ok) {call : CallF} (hcall : CallOk C.P call) {E : Env} {h : AHeap} {w : World} (g : Good E h w.heap) {slot : Option Nat} {t : List AVal} {o : Oper} {a : Act}
    {e : AEnd} {p : Patch} {d : Bool} (hr : aStep C call d h slot t o = some (e, p)) (ht : RvL E t a.tmps.toList) {next : Act → World → Prop} {Q : Exit → Act → World → Prop}
    (hret : ∀ v u w' E', e = .ret v → Rv E' v u → Good E' (applyP h p) w'.heap → Ext E h w.heap E' (applyP h p) w'.heap → WSame w w' → next (a.put o.dst u) w')
    (hpan : ∀ v u w' E', e = .pan v → Rv E' v u → Good E' (applyP h p) w'.heap → Ext E h w.heap E' (applyP h p) w'.heap → WSame w w' → Q (.panic [{ v := u, recovered := false }]) a w') :
    o.wp C.P a w next Q := by
  have he := rv_eval ht
  obtain ⟨dst, op, type, pos, after, guard⟩ := o
  have plain : ∀ {v : AVal}, (∀ cs b, op ≠ .select cs b) → aOp C h slot t ⟨dst, op, type, pos, after, guard⟩ = some (v, p) → e = .ret v →
      Oper.wp C.P ⟨dst, op, type, pos, after, guard⟩ a w next Q := by
    intro v hns hop hev
    obtain ⟨n, u, w', E', k1, k2, k3, k4, k5, k6⟩ := sound_op ok g (o := ⟨dst, op, type, pos, after, guard⟩) hns hop ht
    unfold Oper.wp
    rw [k1]
    rcases k2 with rfl | ⟨rfl, rfl⟩
    · exact hret v u w' E' hev k3 k4 k5 k6
    · exact hret v undef w' E' hev k3 k4 k5 k6
  unfold aStep at hr
  simp only at hr
  split at hr
  · rename_i f args argTs
    have hf := he f
    split at hr
    · rename_i gf fi ca hcl
      rw [hcl] at hf
      split at hr
      · rename_i i hi
        generalize hz : a.eval f = z at hf
        cases hf with
        | clo _ _ _ fv cv h1 h2 =>
          have hx : (execOp a.eval ⟨dst, .call { callee := .value f, args := args, argTypes := argTs }, type, pos, after, guard⟩).run C.P w =
              .ok (.enter gf (fv ++ args.map a.eval ++ cv)) w := by
            simp only [execOp, resolve, hz, Deferred.ofValue, pure_bind, invoke]
            exact ok.call gf i hi _ w
          unfold Oper.wp
          rw [hx]
          have hargs : RvL E (fi ++ args.toList.map (aEval t) ++ ca) (fv ++ args.map a.eval ++ cv).toList := by
            have := (h1.append (rvl_evals ht args.toList)).append h2
            simpa using this
          have : Calls C.P gf (fv ++ args.map a.eval ++ cv).toList.toArray w (CPostE E h w e (applyP h p)) := by
            split at hr
            · exact sound_core (callP_ok hcall) hr g hargs
            · exact sound_invoke hcall hr g hargs
          simp only [Oper.upon]
          refine this.mono fun x w' ⟨E', q1, q2, q3, q4⟩ => ?_
          cases q1 with
          | ret q1 => exact hret _ _ w' E' rfl q1 q2 q3 q4
          | pan q1 => exact hpan _ _ w' E' rfl q1 q2 q3 q4
      · simp at hr
    · simp at hr
  · rename_i x
    have hx := he x
    split at hr
    · rename_i ty v hc
      simp only [Option.some.injEq, Prod.mk.injEq] at hr
      obtain ⟨rfl, rfl⟩ := hr
      rw [hc] at hx
      generalize hz : a.eval x = z at hx
      cases hx with
      | ifc _ _ u hu =>
        have hrun : (execOp a.eval ⟨dst, .panic x, type, pos, after, guard⟩).run C.P w = .halt (.panic (.iface ty u)) w := by
          simp [execOp, hz, Instr.panic, goPanic, Sem.run]
        unfold Oper.wp
        rw [hrun]
        exact hpan _ _ w E rfl (.ifc _ _ _ hu) g (.refl _ _ _) (.refl _)
    · rename_i ty v hc
      simp only [Option.some.injEq, Prod.mk.injEq] at hr
      obtain ⟨rfl, rfl⟩ := hr
      rw [hc] at hx
      generalize hz : a.eval x = z at hx
      cases hx
      have hrun : (execOp a.eval ⟨dst, .panic x, type, pos, after, guard⟩).run C.P w = .halt (.panic (.iface ty v)) w := by
        simp [execOp, hz, Instr.panic, goPanic, Sem.run]
      unfold Oper.wp
      rw [hrun]
      exact hpan _ _ w E rfl (.sc _) g (.refl _ _ _) (.refl _)
    · simp at hr
  · simp at hr
  · rename_i hn1 hn2 hn3
    split at hr
    · rename_i v p' hop
      simp only [Option.some.injEq, Prod.mk.injEq] at hr
      obtain ⟨rfl, rfl⟩ := hr
      exact plain (fun cs b hh => hn3 cs b hh) hop rfl
    · simp at hr

/-! ### slots and guards -/
def aPut (t : List AVal) (dst : Option Tmp) (v : AVal) : List AVal :=
  match dst with
  | some d => t.set d v
  | none => t

theorem rvl_put {E : Env} {t : List AVal} {a : Act} (h : RvL E t a.tmps.toList) (dst : Option Tmp) {v : AVal} {u : Value} (hv : Rv E v u) : RvL E (aPut t dst v) (a.put dst u).tmps.toList := by
  cases dst with
  | none => exact h
  | some d => simp only [aPut, Act.put, Array.toList_setIfInBounds]; exact h.set d hv

theorem put_defers (a : Act) (dst : Option Tmp) (v : Value) : (a.put dst v).defers = a.defers := by cases dst <;> rfl

def aWanted (ops : Array Oper) (t : List AVal) (o : Oper) : Option Bool :=
  match o.guard with
  | none => some true
  | some (j, want) => match ops[j]? with
    | none => none
    | some x => match x.dst with
      | none => none
      | some d => match t[d]? with
        | some (.sc (.bool b)) => some (b == want)
        | some (.tup _) => some false
        | _ => none

theorem wanted_rel {E : Env} {ops : Array Oper} {t : List AVal} {o : Oper} {a : Act} {b : Bool} (h : aWanted ops t o = some b) (ht : RvL E t a.tmps.toList) :
    Region.wanted o (yielded ops a.tmps) = b := by
  unfold aWanted at h
  unfold Region.wanted
  cases hg : o.guard with
  | none => simp [hg] at h; simp [h]
  | some gw =>
    obtain ⟨j, want⟩ := gw
    simp only [hg] at h ⊢
    cases hj : ops[j]? with
    | none => simp [hj] at h
    | some x =>
      simp only [hj] at h
      cases hd : x.dst with
      | none => simp [hd] at h
      | some d =>
        simp only [hd] at h
        split at h
        · rename_i b0 hb
          simp only [Option.some.injEq] at h
          obtain ⟨v, h1, h2⟩ := ht.get d _ hb
          cases h2
          have h1' : a.tmps[d]? = some (.bool b0) := by simpa using h1
          simp only [yielded, hj, Option.bind_some, hd, h1']
          rw [← h]
          cases b0 <;> cases want <;> rfl
        · rename_i cs hb
          simp only [Option.some.injEq] at h
          obtain ⟨v, h1, h2⟩ := ht.get d _ hb
          cases h2 with
          | tup _ vs _ =>
            have h1' : a.tmps[d]? = some (.tuple vs) := by simpa using h1
            simp only [yielded, hj, Option.bind_some, hd, h1']
            rw [← h]
            rfl
        · simp at h

inductive AExit where
  | normal
  | exit (id : Nat)
  | goto (l : Nat)
  | ret
  | panic (v : AVal)

inductive ExitRel (E : Env) : AExit → Exit → Prop
  | normal : ExitRel E .normal .normal
  | exit (id : Nat) : ExitRel E (.exit id) (.exit id)
  | goto (l : Nat) : ExitRel E (.goto l) (.goto l)
  | ret : ExitRel E .ret .ret
  | panic {v : AVal} {u : Value} (h : Rv E v u) : ExitRel E (.panic v) (.panic [{ v := u, recovered := false }])

/-- what a piece of code comes to -/
def CPost (E : Env) (h : AHeap) (w : World) (ds : List Deferred) (x : AExit) (t' : List AVal) (h' : AHeap) : Exit → Act → World → Prop :=
  fun e a' w' => ∃ E', ExitRel E' x e ∧ RvL E' t' a'.tmps.toList ∧ a'.defers = ds ∧ Good E' h' w'.heap ∧ Ext E h w.heap E' h' w'.heap ∧ WSame w w'

theorem CPost.weaken {E E1 : Env} {h h1 : AHeap} {w w1 : World} {ds : List Deferred} {x : AExit} {t' : List AVal} {h' : AHeap} {e : Exit} {a' : Act} {w' : World} (hx : Ext E h w.heap E1 h1 w1.heap) (hs : WSame w w1)
    (k : CPost E1 h1 w1 ds x t' h' e a' w') : CPost E h w ds x t' h' e a' w' := by
  obtain ⟨E', k1, k2, k3, k4, k5, k6⟩ := k
  exact ⟨E', k1, k2, k3, k4, hx.trans k5, hs.trans k6⟩

theorem upon_mono {P : Program} {o : Oper} {a : Act} {next next' : Act → World → Prop} {Q Q' : Exit → Act → World → Prop} (hn : ∀ a w, next a w → next' a w) (hq : ∀ e a w, Q e a w → Q' e a w)
    {r : Result Next} (h : o.upon P a next Q r) : o.upon P a next' Q' r := by
  have hl : LetsOut Q → LetsOut Q' := fun ⟨a, w, k⟩ => ⟨a, w, hq _ _ _ k⟩
  cases r with
  | ok n w' =>
    cases n <;> simp only [Oper.upon] at h ⊢
    case value => exact hn _ _ h
    case skip => exact hn _ _ h
    case defer => exact hn _ _ h
    case enter => exact Calls.mono h fun e w'' k => by cases e <;> first | exact hn _ _ k | exact hq _ _ _ k | exact hl k
    case row => exact Rows.mono h fun _ _ k => hn _ _ k
  | halt x w' => cases x <;> simp only [Oper.upon] at h ⊢ <;> exact hq _ _ _ h

theorem wpOps_mono' {P : Program} {ops : Array Oper} {Q Q' : Exit → Act → World → Prop} (hq : ∀ e a w, Q e a w → Q' e a w) : ∀ (l : List Nat) (a : Act) (w : World), wpOps P ops Q l a w → wpOps P ops Q' l a w
  | [], _, _, h => hq _ _ _ h
  | i :: rest, a, w, h => by
    simp only [wpOps] at h ⊢
    cases ho : ops[i]? with
    | none =>
      rw [ho] at h
      exact wpOps_mono' hq rest a w h
    | some o =>
      rw [ho] at h
      simp only at h ⊢
      by_cases hw : Region.wanted o (yielded ops a.tmps) = true
      · rw [if_pos hw] at h ⊢
        rcases h with h | ⟨h1, a0, w0, h2⟩
        · exact .inl (upon_mono (fun a w => wpOps_mono' hq rest a w) hq h)
        · exact .inr ⟨h1, a0, w0, hq _ _ _ h2⟩
      · rw [if_neg hw] at h ⊢
        exact wpOps_mono' hq rest _ w h

/-- a region whose order is the text's -/
def aOps (C : Cfg) (call : CallF) (ops : Array Oper) : List Oper → List AVal → AHeap → Option (AExit × List AVal × AHeap)
  | [], t, h => some (.normal, t, h)
  | o :: rest, t, h => match aWanted ops t o with
    | some false => aOps C call ops rest (aPut t o.dst (.tup [])) h
    | some true => match aStep C call false h (some (firstDead h)) t o with
      | some (.ret v, p) => aOps C call ops rest (aPut t o.dst v) (applyP h p)
      | some (.pan v, p) => some (.panic v, t, applyP h p)
      | none => none
    | none => none

theorem sound_ops {C : Cfg} (ok : C.Ok) {call : CallF} (hcall : CallOk C.P call) (ops : Array Oper) : ∀ (rest : List Oper) (i : Nat) (t : List AVal) (h : AHeap) {x : AExit} {t' : List AVal} {h' : AHeap},
    ops.toList.drop i = rest → aOps C call ops rest t h = some (x, t', h') → ∀ {E : Env} {w : World} {a : Act}, Good E h w.heap → RvL E t a.tmps.toList →
    wpOps C.P ops (CPost E h w a.defers x t' h') (List.range' i rest.length) a w
  | [], i, t, h, x, t', h', _, hr, E, w, a, g, ht => by
    simp only [aOps, Option.some.injEq, Prod.mk.injEq] at hr
    obtain ⟨rfl, rfl, rfl⟩ := hr
    exact ⟨E, .normal, ht, rfl, g, .refl _ _ _, .refl _⟩
  | o :: rest, i, t, h, x, t', h', hd, hr, E, w, a, g, ht => by
    have hi : ops[i]? = some o := by
      have h1 : (ops.toList.drop i)[0]? = some o := by rw [hd]; rfl
      rw [List.getElem?_drop] at h1
      simpa using h1
    have hd' : ops.toList.drop (i + 1) = rest := by
      rw [← List.drop_drop, hd]; rfl
    simp only [List.length_cons, List.range'_succ, wpOps, hi]
    simp only [aOps] at hr
    have mono : ∀ {E1 : Env} {h1 : AHeap} {w1 : World} {a1 : Act}, a1.defers = a.defers → Ext E h w.heap E1 h1 w1.heap → WSame w w1 →
        wpOps C.P ops (CPost E1 h1 w1 a1.defers x t' h') (List.range' (i + 1) rest.length) a1 w1 → wpOps C.P ops (CPost E h w a.defers x t' h') (List.range' (i + 1) rest.length) a1 w1 := by
      intro E1 h1 w1 a1 hds hx hs k
      exact wpOps_mono' (fun e a' w' q => by rw [← hds]; exact CPost.weaken hx hs q) _ _ _ k
    split at hr
    · rename_i hw
      rw [if_neg (by rw [wanted_rel hw ht]; simp)]
      have := sound_ops ok hcall ops rest (i + 1) _ h hd' hr (a := a.put o.dst undef) g (rvl_put ht o.dst rv_undef)
      rwa [put_defers] at this
    · rename_i hw
      rw [if_pos (wanted_rel hw ht)]
      left
      split at hr
      · rename_i v p hst
        refine sound_step ok hcall g hst ht (fun v' u w' E' hv hu hg hx hs => ?_) (fun v' u w' E' hv => by simp at hv)
        simp only [AEnd.ret.injEq] at hv
        subst hv
        exact mono (put_defers _ _ _) hx hs (sound_ops ok hcall ops rest (i + 1) _ _ hd' hr (a := a.put o.dst u) hg (rvl_put (RvL.mono hx.le ht) o.dst hu))
      · rename_i v p hst
        simp only [Option.some.injEq, Prod.mk.injEq] at hr
        obtain ⟨rfl, rfl, rfl⟩ := hr
        refine sound_step ok hcall g hst ht (fun v' u w' E' hv => by simp at hv) (fun v' u w' E' hv hu hg hx hs => ?_)
        simp only [AEnd.pan.injEq] at hv
        subst hv
        exact ⟨E', .panic hu, RvL.mono hx.le ht, rfl, hg, hx, hs⟩
      · simp at hr
    · simp at hr

end Go.Proofs.Ae

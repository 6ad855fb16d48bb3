/-
  Code, and the functions of the program.
-/
import Derived.Test.YtjfdjendaagccaaAeFc
namespace Go.Proofs.Ae
open Go

def aCode (C : Cfg) (call : CallF) (gi : GcI) : Nat → Code → List AVal → AHeap → Option (AExit × List AVal × AHeap)
  | 0, _, _, _ => none
  | n + 1, c, t, h => match c with
    | .skip => some (.normal, t, h)
    | .label _ => some (.normal, t, h)
    | .region _ ops false => aOps C call ops ops.toList t h
    | .region _ ops true => aDraw C call ops t h
    | .seq a b => match aCode C call gi n a t h with
      | some (.normal, t1, h1) => aCode C call gi n b t1 h1
      | r => r
    | .cond c a b => match aEval t c with
      | .sc (.bool true) => aCode C call gi n a t h
      | .sc (.bool false) => aCode C call gi n b t h
      | _ => none
    | .block id b => match aCode C call gi n b t h with
      | some (.exit id', t1, h1) => if id' = id then some (.normal, t1, h1) else some (.exit id', t1, h1)
      | r => r
    | .loop b => match aCode C call gi n b (aGc gi b t h).1 (aGc gi b t h).2 with
      | some (.normal, t1, h1) => aCode C call gi n (.loop b) t1 h1
      | r => r
    | .exit id => some (.exit id, t, h)
    | .goto l => some (.goto l, t, h)
    | .ret => some (.ret, t, h)
    | _ => none

/-- what a piece of code comes to, where objects may have been dropped -/
def CPostK (k : Nat) (E : Env) (h : AHeap) (w : World) (ds : List Deferred) (x : AExit) (t' : List AVal) (h' : AHeap) : Exit → Act → World → Prop :=
  fun e a' w' => ∃ E', ExitRel E' x e ∧ RvL E' t' a'.tmps.toList ∧ a'.defers = ds ∧ Good E' h' w'.heap ∧ ExtK k E h w.heap E' h' w'.heap ∧ WSame w w'

theorem CPost.toK {E : Env} {h : AHeap} {w : World} {ds : List Deferred} {x : AExit} {t' : List AVal} {h' : AHeap} (k : Nat) {e : Exit} {a' : Act} {w' : World}
    (p : CPost E h w ds x t' h' e a' w') : CPostK k E h w ds x t' h' e a' w' := by
  obtain ⟨E', k1, k2, k3, k4, k5, k6⟩ := p
  exact ⟨E', k1, k2, k3, k4, k5.toK k, k6⟩

theorem CPostK.weaken {k : Nat} {E E1 : Env} {h h1 : AHeap} {w w1 : World} {ds : List Deferred} {x : AExit} {t' : List AVal} {h' : AHeap} {e : Exit} {a' : Act} {w' : World}
    (hx : ExtK k E h w.heap E1 h1 w1.heap) (hs : WSame w w1) (p : CPostK k E1 h1 w1 ds x t' h' e a' w') : CPostK k E h w ds x t' h' e a' w' := by
  obtain ⟨E', k1, k2, k3, k4, k5, k6⟩ := p
  exact ⟨E', k1, k2, k3, k4, hx.trans k5, hs.trans k6⟩

theorem CPost.ext {E : Env} {h : AHeap} {w : World} {ds : List Deferred} {x : AExit} {t' : List AVal} {h' : AHeap} {e : Exit} {a' : Act} {w' : World} (k : CPost E h w ds x t' h' e a' w') :
    ∃ E', ExitRel E' x e ∧ RvL E' t' a'.tmps.toList ∧ a'.defers = ds ∧ Good E' h' w'.heap ∧ Ext E h w.heap E' h' w'.heap ∧ WSame w w' := k

/-- the rounds of a loop, from the point where its body stands ahead -/
def LoopAt (P : Program) (c : Code) (Q : Exit → Act → World → Prop) (a : Act) (w : World) : Prop :=
  ∀ (b : Frame) (k : List Item) (cs : List Frame), ∃ e a' w', Q e a' w' ∧ Arrives P (lone (b.at a (.code c :: .inLoop c :: k)) cs w) b k cs e a' w'

theorem wp_loop_at {P : Program} {c : Code} {Q : Exit → Act → World → Prop} {a : Act} {w : World} (h : LoopAt P c Q a w) : (Code.loop c).wp P Q a w := by
  intro b k cs
  obtain ⟨e, a', w', hq, harr⟩ := h b k cs
  exact ⟨e, a', w', hq, .of_steps (.one step_loop) harr⟩

theorem loop_round {P : Program} {c : Code} {Q : Exit → Act → World → Prop} {a : Act} {w : World} (h : c.wp P (Exit.then (LoopAt P c Q) Q) a w) : LoopAt P c Q a w := by
  intro b k cs
  obtain ⟨e, a₁, w₁, hq, harr⟩ := h b (.inLoop c :: k) cs
  cases e with
  | normal =>
    obtain ⟨e₂, a₂, w₂, hq₂, harr₂⟩ := hq b k cs
    exact ⟨e₂, a₂, w₂, hq₂, .of_steps (Steps.trans harr (.one step_inLoop)) harr₂⟩
  | exit id => exact ⟨_, a₁, w₁, hq, .pass (x := .inLoop c) rfl (fun _ _ => .inl (by simp)) harr⟩
  | goto l => exact ⟨_, a₁, w₁, hq, .pass (x := .inLoop c) rfl (fun _ _ => .inl (by simp)) harr⟩
  | ret => exact ⟨_, a₁, w₁, hq, .pass (x := .inLoop c) rfl (fun _ _ => .inl (by simp)) harr⟩
  | panic ch => exact ⟨_, a₁, w₁, hq, .pass (x := .inLoop c) rfl (fun _ _ => .inl (by simp)) harr⟩
  | outgrown => exact ⟨_, a₁, w₁, hq, .pass (x := .inLoop c) rfl (fun _ _ => .inl (by simp)) harr⟩

theorem sound_code {C : Cfg} (ok : C.Ok) {call : CallF} (hcall : CallOk C.P call) (gi : GcI) : ∀ (n : Nat) (c : Code) (t : List AVal) (h : AHeap) {x : AExit} {t' : List AVal} {h' : AHeap},
    aCode C call gi n c t h = some (x, t', h') → ∀ {E : Env} {w : World} {a : Act}, Good E h w.heap → RvL E t a.tmps.toList → c.wp C.P (CPostK gi.k E h w a.defers x t' h') a w ∧
      ∀ b, c = .loop b → LoopAt C.P b (CPostK gi.k E h w a.defers x t' h') a w
  | 0, _, _, _, _, _, _, hr, _, _, _, _, _ => by simp [aCode] at hr
  | n + 1, c, t, h, x, t', h', hr, E, w, a, g, ht => by
    have ih := fun (c : Code) (t : List AVal) (h : AHeap) {x : AExit} {t' : List AVal} {h' : AHeap} (hr : aCode C call gi n c t h = some (x, t', h')) {E : Env} {w : World} {a : Act} (g : Good E h w.heap)
      (ht : RvL E t a.tmps.toList) => sound_code ok hcall gi n c t h hr g ht
    have done : ∀ {x : AExit} {e : Exit}, (∀ E, ExitRel E x e) → CPostK gi.k E h w a.defers x t h e a w := fun hx => ⟨E, hx E, ht, rfl, g, (Ext.refl _ _ _).toK _, .refl _⟩
    -- a piece, and what follows it
    have follow0 : ∀ {E0 : Env} {t0 : List AVal} {h0 : AHeap} {c1 : Code} {x1 : AExit} {t1 : List AVal} {h1 : AHeap} {K : Act → World → Prop}, Good E0 h0 w.heap → RvL E0 t0 a.tmps.toList →
        ExtK gi.k E h w.heap E0 h0 w.heap → aCode C call gi n c1 t0 h0 = some (x1, t1, h1) →
        (x1 = .normal → ∀ (E1 : Env) (w1 : World) (a1 : Act), Good E1 h1 w1.heap → RvL E1 t1 a1.tmps.toList → a1.defers = a.defers → ExtK gi.k E h w.heap E1 h1 w1.heap → WSame w w1 → K a1 w1) →
        (x1 ≠ .normal → x = x1 ∧ t' = t1 ∧ h' = h1) → c1.wp C.P (Exit.then K (CPostK gi.k E h w a.defers x t' h')) a w := by
      intro E0 t0 h0 c1 x1 t1 h1 K g0 ht0 x0 hc hn hx
      refine wp_mono (ih c1 t0 h0 hc g0 ht0).1 fun e a1 w1 hp => ?_
      have hp' := CPostK.weaken x0 (.refl _) hp
      obtain ⟨E1, k1, k2, k3, k4, k5, k6⟩ := hp
      cases k1 with
      | normal => exact hn rfl E1 w1 a1 k4 k2 k3 (x0.trans k5) k6
      | exit id => obtain ⟨rfl, rfl, rfl⟩ := hx (by simp); exact hp'
      | goto l => obtain ⟨rfl, rfl, rfl⟩ := hx (by simp); exact hp'
      | ret => obtain ⟨rfl, rfl, rfl⟩ := hx (by simp); exact hp'
      | panic hu => obtain ⟨rfl, rfl, rfl⟩ := hx (by simp); exact hp'
    have follow : ∀ {c1 : Code} {x1 : AExit} {t1 : List AVal} {h1 : AHeap} {K : Act → World → Prop}, aCode C call gi n c1 t h = some (x1, t1, h1) →
        (x1 = .normal → ∀ (E1 : Env) (w1 : World) (a1 : Act), Good E1 h1 w1.heap → RvL E1 t1 a1.tmps.toList → a1.defers = a.defers → ExtK gi.k E h w.heap E1 h1 w1.heap → WSame w w1 → K a1 w1) →
        (x1 ≠ .normal → x = x1 ∧ t' = t1 ∧ h' = h1) → c1.wp C.P (Exit.then K (CPostK gi.k E h w a.defers x t' h')) a w := follow0 g ht ((Ext.refl _ _ _).toK _)
    cases c with
    | skip =>
      simp only [aCode, Option.some.injEq, Prod.mk.injEq] at hr
      obtain ⟨rfl, rfl, rfl⟩ := hr
      exact ⟨wp_skip (done fun _ => .normal), fun b hb => by simp at hb⟩
    | label l =>
      simp only [aCode, Option.some.injEq, Prod.mk.injEq] at hr
      obtain ⟨rfl, rfl, rfl⟩ := hr
      exact ⟨wp_label (done fun _ => .normal), fun b hb => by simp at hb⟩
    | region id ops draw =>
      cases draw with
      | false =>
        simp only [aCode] at hr
        refine ⟨wp_mono (wp_region ?_) fun _ _ _ k => CPost.toK gi.k k, fun b hb => by simp at hb⟩
        have := sound_ops ok hcall ops ops.toList 0 t h (by simp) hr g ht
        rwa [Array.length_toList, ← List.range_eq_range'] at this
      | true =>
        simp only [aCode] at hr
        exact ⟨wp_mono (sound_draw ok hcall hr g ht) fun _ _ _ k => CPost.toK gi.k k, fun b hb => by simp at hb⟩
    | seq c1 c2 =>
      refine ⟨wp_seq ?_, fun b hb => by simp at hb⟩
      simp only [aCode] at hr
      split at hr
      · rename_i t1 h1 hc
        refine follow hc (fun _ E1 w1 a1 g1 r1 d1 e1 s1 => ?_) (fun hne => absurd rfl hne)
        refine wp_mono (ih c2 t1 h1 hr g1 r1).1 fun e a2 w2 hp => ?_
        rw [← d1]
        exact hp.weaken e1 s1
      · rename_i hne
        refine follow hr (fun hx => ?_) (fun _ => ⟨rfl, rfl, rfl⟩)
        subst hx
        exact absurd hr (hne _ _)
    | cond cc c1 c2 =>
      refine ⟨?_, fun b hb => by simp at hb⟩
      have hc := rv_eval ht cc
      simp only [aCode] at hr
      split at hr
      · rename_i heq
        rw [heq] at hc
        generalize hz : a.eval cc = z at hc
        cases hc
        exact wp_cond hz (by simpa using (ih c1 t h hr g ht).1)
      · rename_i heq
        rw [heq] at hc
        generalize hz : a.eval cc = z at hc
        cases hc
        exact wp_cond hz (by simpa using (ih c2 t h hr g ht).1)
      · simp at hr
    | block id b =>
      refine ⟨wp_block ?_, fun b hb => by simp at hb⟩
      simp only [aCode] at hr
      split at hr
      · rename_i id' t1 h1 hc
        refine wp_mono (ih b t h hc g ht).1 fun e a1 w1 ⟨E1, k1, k2, k3, k4, k5, k6⟩ => ?_
        cases k1 with
        | exit _ =>
          simp only [Exit.inBlock]
          split at hr
          · rename_i hid
            simp only [Option.some.injEq, Prod.mk.injEq] at hr
            obtain ⟨rfl, rfl, rfl⟩ := hr
            rw [if_pos hid]
            exact ⟨E1, .normal, k2, k3, k4, k5, k6⟩
          · rename_i hid
            simp only [Option.some.injEq, Prod.mk.injEq] at hr
            obtain ⟨rfl, rfl, rfl⟩ := hr
            rw [if_neg hid]
            exact ⟨E1, .exit _, k2, k3, k4, k5, k6⟩
      · rename_i hne
        refine wp_mono (ih b t h hr g ht).1 fun e a1 w1 hp => ?_
        have hp' := hp
        obtain ⟨E1, k1, k2, k3, k4, k5, k6⟩ := hp
        cases k1 with
        | exit id' => exact absurd hr (hne _ _ _)
        | normal => exact hp'
        | goto l => exact hp'
        | ret => exact hp'
        | panic hu => exact hp'
    | loop b =>
      have key : LoopAt C.P b (CPostK gi.k E h w a.defers x t' h') a w := by
        refine loop_round ?_
        simp only [aCode] at hr
        obtain ⟨E0, g0, ht0, x0⟩ := good_gc (gi := gi) (c := b) g ht
        generalize (aGc gi b t h).1 = t0 at *
        generalize (aGc gi b t h).2 = h0 at *
        split at hr
        · rename_i t1 h1 hc
          refine follow0 g0 ht0 x0 hc (fun _ E1 w1 a1 g1 r1 d1 e1 s1 => ?_) (fun hne => absurd rfl hne)
          have := (ih (.loop b) t1 h1 hr g1 r1).2 b rfl
          intro bb kk cs
          obtain ⟨e, a', w', q1, q2⟩ := this bb kk cs
          refine ⟨e, a', w', ?_, q2⟩
          rw [← d1]
          exact q1.weaken e1 s1
        · rename_i hne
          refine follow0 g0 ht0 x0 hr (fun hx => ?_) (fun _ => ⟨rfl, rfl, rfl⟩)
          subst hx
          exact absurd hr (hne _ _)
      refine ⟨wp_loop_at key, fun b' hb => ?_⟩
      cases hb
      exact key
    | exit id =>
      simp only [aCode, Option.some.injEq, Prod.mk.injEq] at hr
      obtain ⟨rfl, rfl, rfl⟩ := hr
      exact ⟨wp_exit (done fun _ => .exit _), fun b hb => by simp at hb⟩
    | goto l =>
      simp only [aCode, Option.some.injEq, Prod.mk.injEq] at hr
      obtain ⟨rfl, rfl, rfl⟩ := hr
      exact ⟨wp_goto (done fun _ => .goto _), fun b hb => by simp at hb⟩
    | ret =>
      simp only [aCode, Option.some.injEq, Prod.mk.injEq] at hr
      obtain ⟨rfl, rfl, rfl⟩ := hr
      exact ⟨wp_ret (done fun _ => .ret), fun b hb => by simp at hb⟩
    | _ => simp [aCode] at hr

/-! ### the functions -/
def aResult (C : Cfg) (t : List AVal) (h : AHeap) : ResultVar → Option AVal
  | .tmp x => some (t.getD x (.tup []))
  | .cell a ty => aLoad C h ty (t.getD a (.tup []))

def aResults (C : Cfg) (t : List AVal) (h : AHeap) : List ResultVar → Option (List AVal)
  | [] => some []
  | r :: rs => match aResult C t h r, aResults C t h rs with
    | some v, some vs => some (v :: vs)
    | _, _ => none

def oneOr : List AVal → AVal
  | [v] => v
  | vs => .tup vs

def aCall (C : Cfg) : Nat → CallF
  | 0, _, _, _ => none
  | n + 1, f, args, h => match C.fn f with
    | none => none
    | some i => match aCode C (aCall C n) ⟨h.length, i.live⟩ n i.body (args ++ List.replicate (i.ntmps - args.length) (.tup [])) h with
      | some (.panic v, _, h') => some (.pan v, h')
      | some (.normal, t', h') => match aResults C t' h' i.results with
        | some vs => some (.ret (oneOr vs), h')
        | none => none
      | some (.ret, t', h') => match aResults C t' h' i.results with
        | some vs => some (.ret (oneOr vs), h')
        | none => none
      | _ => none

def resFn (tmps : Array Value) : ResultVar → Sem Value
  | .tmp t => pure (tmps.getD t undef)
  | .cell a t => do loadVar t (← asAddr (tmps.getD a undef))

theorem results_eq (fn : Func) (tmps : Array Value) : results fn tmps = (do let vs ← fn.results.mapM (resFn tmps); pure (if h : vs.size = 1 then vs[0] else .tuple vs)) := rfl

theorem run_result {C : Cfg} (ok : C.Ok) {E : Env} {h : AHeap} {w : World} (g : Good E h w.heap) {t : List AVal} {tmps : Array Value} (ht : RvL E t tmps.toList) {r : ResultVar} {v : AVal} (hr : aResult C t h r = some v) :
    ∃ u, (resFn tmps r).run C.P w = .ok u w ∧ Rv E v u := by
  have hev : ∀ x, Rv E (t.getD x (.tup [])) (tmps.getD x undef) := fun x => rv_eval (a := { tmps := tmps, defers := [] }) ht (.tmp x)
  cases r with
  | tmp x =>
    simp only [aResult, Option.some.injEq] at hr
    subst hr
    exact ⟨_, rfl, hev x⟩
  | cell a ty =>
    simp only [aResult] at hr
    have hx := hev a
    generalize hz : tmps.getD a undef = z at hx
    generalize t.getD a (.tup []) = y at hx hr
    obtain ⟨u, k1, k2⟩ := run_load ok g hr hx
    have hp : ∃ ad, z = .pointer (some ad) := by
      cases hx <;> first | exact ⟨_, rfl⟩ | skip
      all_goals (unfold aLoad at hr; split at hr <;> simp at hr)
    obtain ⟨ad, rfl⟩ := hp
    refine ⟨u, ?_, k2⟩
    simp only [resFn, hz, asAddr]
    simpa [Instr.loadAt, Instr.sureAddr] using k1

theorem run_results {C : Cfg} (ok : C.Ok) {E : Env} {h : AHeap} {w : World} (g : Good E h w.heap) {t : List AVal} {tmps : Array Value} (ht : RvL E t tmps.toList) : ∀ {rs : List ResultVar} {vs : List AVal},
    aResults C t h rs = some vs → ∃ us : List Value, (rs.mapM (resFn tmps)).run C.P w = .ok us w ∧ RvL E vs us
  | [], _, hr => by
    simp only [aResults, Option.some.injEq] at hr
    subst hr
    exact ⟨[], by simp, .nil⟩
  | r :: rs, _, hr => by
    simp only [aResults] at hr
    split at hr
    · rename_i v vs h1 h2
      simp only [Option.some.injEq] at hr
      subst hr
      obtain ⟨u, k1, k2⟩ := run_result ok g ht h1
      obtain ⟨us, k3, k4⟩ := run_results ok g ht h2
      refine ⟨u :: us, ?_, .cons k2 k4⟩
      rw [List.mapM_cons, Sem.run_bind, k1]
      simp only [Result.andThen_ok, Sem.run_bind, k3, Sem.run_pure]
    · simp at hr

theorem run_resultsOf {C : Cfg} (ok : C.Ok) {E : Env} {h : AHeap} {w : World} (g : Good E h w.heap) {t : List AVal} {tmps : Array Value} (ht : RvL E t tmps.toList) {fn : Func} {vs : List AVal}
    (hr : aResults C t h fn.results.toList = some vs) : ∃ u, (results fn tmps).run C.P w = .ok u w ∧ Rv E (oneOr vs) u := by
  obtain ⟨us, h1, h2⟩ := run_results ok g ht hr
  have hl := h2.length
  have hrun : (fn.results.mapM (resFn tmps)).run C.P w = .ok us.toArray w := by
    rw [Array.mapM_eq_mapM_toList]
    simp only [Sem.run_map, h1, Result.andThen_ok]
  cases h2 with
  | nil =>
    refine ⟨.tuple #[], ?_, .tup _ _ .nil⟩
    rw [results_eq, Sem.run_bind, hrun]
    simp
  | cons ha hs =>
    cases hs with
    | nil =>
      refine ⟨_, ?_, ha⟩
      rw [results_eq, Sem.run_bind, hrun]
      simp
    | cons hb hs' =>
      rename_i a v b bs vb vbs
      refine ⟨.tuple (v :: vb :: vbs).toArray, ?_, .tup _ _ (.cons ha (.cons hb hs'))⟩
      rw [results_eq, Sem.run_bind, hrun]
      simp

theorem sound_call {C : Cfg} (ok : C.Ok) : ∀ n, CallOk C.P (aCall C n) := by
  intro n
  induction n with
  | zero => intro g args h e h' hr; simp [aCall] at hr
  | succ n ih =>
    intro f args h e h' hr E w vs g hv
    simp only [aCall] at hr
    split at hr
    · simp at hr
    · rename_i i hi
      obtain ⟨fn, f1, f2, f3, f4⟩ := ok.fn f i hi
      have hlen := hv.length
      have ht : RvL E (args ++ List.replicate (i.ntmps - args.length) (.tup [])) (({ tmps := vs.toArray ++ Array.replicate (fn.ntmps - vs.toArray.size) undef, defers := [] } : Act).tmps.toList) := by
        simp only [Array.toList_append, Array.toList_replicate, f3, List.size_toArray, ← hlen]
        exact hv.append (RvL.replicate rv_undef _)
      refine calls_of_wp f1 f2 ?_
      split at hr
      · rename_i v t' h1 hc
        simp only [Option.some.injEq, Prod.mk.injEq] at hr
        obtain ⟨rfl, rfl⟩ := hr
        refine wp_mono (sound_code ok ih ⟨h.length, i.live⟩ n i.body _ h hc g ht).1 fun x a' w' ⟨E', k1, k2, k3, k4, k5, k6⟩ => ?_
        cases k1 with
        | panic hu => exact ⟨k3, E', .pan hu, k4, k5.toExt g, k6⟩
      · rename_i t' h1 hc
        split at hr
        · rename_i us hus
          simp only [Option.some.injEq, Prod.mk.injEq] at hr
          obtain ⟨rfl, rfl⟩ := hr
          refine wp_mono (sound_code ok ih ⟨h.length, i.live⟩ n i.body _ h hc g ht).1 fun x a' w' ⟨E', k1, k2, k3, k4, k5, k6⟩ => ?_
          cases k1
          obtain ⟨u, q1, q2⟩ := run_resultsOf (fn := fn) ok k4 k2 (by rw [f4]; exact hus)
          exact ⟨k3, u, q1, E', .ret q2, k4, k5.toExt g, k6⟩
        · simp at hr
      · rename_i t' h1 hc
        split at hr
        · rename_i us hus
          simp only [Option.some.injEq, Prod.mk.injEq] at hr
          obtain ⟨rfl, rfl⟩ := hr
          refine wp_mono (sound_code ok ih ⟨h.length, i.live⟩ n i.body _ h hc g ht).1 fun x a' w' ⟨E', k1, k2, k3, k4, k5, k6⟩ => ?_
          cases k1
          obtain ⟨u, q1, q2⟩ := run_resultsOf (fn := fn) ok k4 k2 (by rw [f4]; exact hus)
          exact ⟨k3, u, q1, E', .ret q2, k4, k5.toExt g, k6⟩
        · simp at hr
      · simp at hr

end Go.Proofs.Ae

/-
  Calls: what the caller makes ready, and what it gets back.
-/
import Derived.Test.YtjfdjendaagccaaAeC
namespace Go.Proofs.Ae
open Go

inductive AEnd where
  | ret (v : AVal)
  | pan (v : AVal)

abbrev CallF := FuncId → List AVal → AHeap → Option (AEnd × AHeap)

inductive EndRel (E : Env) : AEnd → Ending → Prop
  | ret {v : AVal} {u : Value} (h : Rv E v u) : EndRel E (.ret v) (.returned u)
  | pan {v : AVal} {u : Value} (h : Rv E v u) : EndRel E (.pan v) (.panicked [{ v := u, recovered := false }])

/-- what a call comes to -/
def CPostE (E : Env) (h : AHeap) (w : World) (e : AEnd) (h' : AHeap) : Ending → World → Prop :=
  fun e' w' => ∃ E', EndRel E' e e' ∧ Good E' h' w'.heap ∧ Ext E h w.heap E' h' w'.heap ∧ WSame w w'

def CallOk (P : Program) (call : CallF) : Prop :=
  ∀ g args h e h', call g args h = some (e, h') → ∀ (E : Env) (w : World) (vs : List Value), Good E h w.heap → RvL E args vs → Calls P g vs.toArray w (CPostE E h w e h')

def markP (h : AHeap) : List Nat → Patch
  | [] => []
  | l :: S => match h[l]? with
    | some (.arr cells true) => (l, .arr cells false) :: markP (h.set l (.arr cells false)) S
    | _ => markP h S

theorem good_markP {H : Array Obj} : ∀ (S : List Nat) {E : Env} {h : AHeap}, Good E h H → ∃ E', E.Le E' ∧ Good E' (applyP h (markP h S)) H ∧ Ext E h H E' (applyP h (markP h S)) H ∧
    (applyP h (markP h S)).length = h.length
  | [], E, h, g => ⟨E, .refl E, g, .refl _ _ _, rfl⟩
  | l :: S, E, h, g => by
    unfold markP
    split
    · rename_i cells e
      obtain ⟨E1, a1, _, _, a2, a3, _⟩ := good_seal g e
      obtain ⟨E2, b1, b2, b3, b4⟩ := good_markP S a2
      have hlt : l < h.length := (List.getElem?_eq_some_iff.1 e).1
      simp only [applyP, hlt, if_true]
      exact ⟨E2, a1.trans b1, b2, a3.trans b3, by rw [b4]; simp⟩
    · exact good_markP S g

def unW : AObj → AObj
  | .arr cells _ => .arr cells false
  | o => o

def prep (C : Cfg) (g : FuncId) (args : List AVal) (h : AHeap) : List AVal × Patch :=
  if (C.byRef g || (locsL args).isEmpty) = true then (args, [])
  else
    let hA := h.map unW
    let S := reach 4 h (nub ((args.filter fun a => !(locs a).isEmpty && (frz 4 hA a).isSome).flatMap locs))
    let p := markP h S
    let h1 := applyP h p
    (args.map fun a => if (locs a).isEmpty = true then a else match frz 4 h1 a with
      | some a' => a'
      | none => a, p)

theorem rvl_map {E E' : Env} {f : AVal → AVal} (hf : ∀ a v, Rv E a v → Rv E' (f a) v) : ∀ {as : List AVal} {vs : List Value}, RvL E as vs → RvL E' (as.map f) vs
  | [], _, .nil => .nil
  | _ :: _, _, .cons h hs => .cons (hf _ _ h) (rvl_map hf hs)

theorem good_prep {C : Cfg} {g : FuncId} {args : List AVal} {E : Env} {h : AHeap} {H : Array Obj} (gd : Good E h H) {vs : List Value} (hv : RvL E args vs) :
    ∃ E', E.Le E' ∧ Good E' (applyP h (prep C g args h).2) H ∧ Ext E h H E' (applyP h (prep C g args h).2) H ∧ (applyP h (prep C g args h).2).length = h.length ∧
      RvL E' (prep C g args h).1 vs := by
  unfold prep
  split
  · exact ⟨E, .refl E, gd, .refl _ _ _, rfl, hv⟩
  · obtain ⟨E1, a1, a2, a3, a4⟩ := good_markP (reach 4 h (nub ((args.filter fun a => !(locs a).isEmpty && (frz 4 (h.map unW) a).isSome).flatMap locs))) gd
    obtain ⟨E2, b1, b2, b3, b4, b5, b6⟩ := good_sealAll a2
    refine ⟨E2, a1.trans b1, b4, a3.trans b5, a4, ?_⟩
    have hv2 := RvL.mono (a1.trans b1) hv
    refine rvl_map (fun a v ha => ?_) hv2
    split
    · exact ha
    · split
      · rename_i a' hf
        exact Rv.mono E2.pure_le (frz_rel b6 4 hf ha)
      · exact ha

def mapEnd (k : Hd) : AEnd → Option AEnd
  | .ret v => match mapV k v with
    | some v' => some (.ret v')
    | none => none
  | .pan v => match mapV k v with
    | some v' => some (.pan v')
    | none => none

theorem mapEnd_rel {k : Hd} {E E' : Env} (hk : k.Ok E E') {e e' : AEnd} {x : Ending} (h : mapEnd k e = some e') (g : EndRel E e x) : EndRel E' e' x := by
  cases e with
  | ret v =>
    simp only [mapEnd] at h
    split at h
    · rename_i v' hv
      simp only [Option.some.injEq] at h; subst h
      cases g with
      | ret g => exact .ret (mapV_rel hk hv g)
    · simp at h
  | pan v =>
    simp only [mapEnd] at h
    split at h
    · rename_i v' hv
      simp only [Option.some.injEq] at h; subst h
      cases g with
      | pan g => exact .pan (mapV_rel hk hv g)
    · simp at h

/-- the callee's heap and its result, for the caller: what it made is frozen, or where that can't be, kept -/
def aBack (L : List Nat) (n : Nat) (sub : AHeap) (e : AEnd) : Option (AEnd × Patch) :=
  let sm := applyP sub (markP sub ((List.range sub.length).drop L.length))
  match mapEnd (relocOut true L n false sm) e, mapObjs (relocOut false L n false sm) (sm.take L.length) with
  | some e', some os => some (e', L.zip (os.take L.length) ++ pushes n (os.drop L.length))
  | _, _ => match mapEnd (relocOut true L n true sub) e, mapObjs (relocOut false L n true sub) sub with
    | some e', some os => some (e', L.zip (os.take L.length) ++ pushes n (os.drop L.length))
    | _, _ => none

theorem good_aBack {E Ec : Env} {h sub0 sub : AHeap} {H H' : Array Obj} (g : Good E h H) {L : List Nat} (hn : L.Nodup) (hlt : ∀ x, x ∈ L → x < h.length) (hs0 : subHeap h L L = some sub0)
    (gc : Good Ec sub H') (xc : Ext (E.sub L) sub0 H Ec sub H') {e e' : AEnd} {p : Patch} {x : Ending} (hb : aBack L h.length sub e = some (e', p)) (he : EndRel Ec e x) :
    ∃ E', EndRel E' e' x ∧ Good E' (applyP h p) H' ∧ Ext E h H E' (applyP h p) H' := by
  unfold aBack at hb
  dsimp only at hb
  split at hb
  · rename_i e1 os h1 h2
    simp only [Option.some.injEq, Prod.mk.injEq] at hb
    obtain ⟨rfl, rfl⟩ := hb
    obtain ⟨E1, a1, a2, a3, a4⟩ := good_markP ((List.range sub.length).drop L.length) gc
    obtain ⟨E2, b1, b2, b3, b4, b5, b6⟩ := good_sealAll a2
    have := good_back g hn hlt hs0 b4 ((xc.trans a3).trans b5) b6 (keep := false) (os := os) (by simpa using h2)
    refine ⟨_, ?_, this.1, this.2⟩
    have hk := relocOut_ok (cn := true) (E := E) (n := h.length) (keep := false) hn hlt b6
    refine mapEnd_rel hk h1 ?_
    cases he with
    | ret he => exact .ret (Rv.mono (a1.trans b1) he)
    | pan he => exact .pan (Rv.mono (a1.trans b1) he)
  · split at hb
    · rename_i e1 os h1 h2
      simp only [Option.some.injEq, Prod.mk.injEq] at hb
      obtain ⟨rfl, rfl⟩ := hb
      obtain ⟨E2, b1, b2, b3, b4, b5, b6⟩ := good_sealAll gc
      have := good_back g hn hlt hs0 b4 (xc.trans b5) b6 (keep := true) (os := os) (by simpa using h2)
      refine ⟨_, ?_, this.1, this.2⟩
      have hk := relocOut_ok (cn := true) (E := E) (n := h.length) (keep := true) hn hlt b6
      refine mapEnd_rel hk h1 ?_
      cases he with
      | ret he => exact .ret (Rv.mono b1 he)
      | pan he => exact .pan (Rv.mono b1 he)
    · simp at hb

def aCore (call : CallF) (g : FuncId) (args : List AVal) (h : AHeap) : Option (AEnd × Patch) :=
  let L := reach 8 h (nub (locsL args))
  if L.Nodup ∧ L.all (fun l => decide (l < h.length)) = true then
    match mapVL (relocIn true L) args, subHeap h L L with
    | some args2, some sub0 => match call g args2 sub0 with
      | some (e, sub) => aBack L h.length sub e
      | none => none
    | _, _ => none
  else none

theorem sound_core {P : Program} {call : CallF} (hcall : CallOk P call) {g : FuncId} {args : List AVal} {h : AHeap} {e : AEnd} {p : Patch} (hr : aCore call g args h = some (e, p))
    {E : Env} {w : World} {vs : List Value} (gd : Good E h w.heap) (hv : RvL E args vs) : Calls P g vs.toArray w (CPostE E h w e (applyP h p)) := by
  unfold aCore at hr
  simp only at hr
  generalize hL : reach 8 h (nub (locsL args)) = L at *
  split at hr
  · rename_i hc
    obtain ⟨hn, hlt⟩ := hc
    have hlt' : ∀ x, x ∈ L → x < h.length := fun x hx => by simpa using List.all_eq_true.1 hlt x hx
    split at hr
    · rename_i args2 sub0 h1 h2
      split at hr
      · rename_i e0 sub h3
        have gs := good_sub gd hn h2
        have hv2 := mapVL_rel (relocIn_ok true E L) h1 hv
        refine (hcall g args2 sub0 e0 sub h3 (E.sub L) w vs gs hv2).mono fun x w' ⟨Ec, k1, k2, k3, k4⟩ => ?_
        obtain ⟨E', q1, q2, q3⟩ := good_aBack gd hn hlt' h2 k2 k3 hr k1
        exact ⟨E', q1, q2, q3, k4⟩
      · simp at hr
    · simp at hr
  · simp at hr

def aInvoke (C : Cfg) (call : CallF) (g : FuncId) (args : List AVal) (h : AHeap) : Option (AEnd × Patch) :=
  let r := prep C g args h
  match aCore call g r.1 (applyP h r.2) with
  | some (e, p) => some (e, r.2 ++ p)
  | none => none

theorem sound_invoke {C : Cfg} {call : CallF} (hcall : CallOk C.P call) {g : FuncId} {args : List AVal} {h : AHeap} {e : AEnd} {p : Patch} (hr : aInvoke C call g args h = some (e, p))
    {E : Env} {w : World} {vs : List Value} (gd : Good E h w.heap) (hv : RvL E args vs) : Calls C.P g vs.toArray w (CPostE E h w e (applyP h p)) := by
  unfold aInvoke at hr
  simp only at hr
  obtain ⟨E1, a1, a2, a3, a4, a5⟩ := good_prep (C := C) (g := g) gd hv
  generalize prep C g args h = r at *
  split at hr
  · rename_i e0 p0 hc
    simp only [Option.some.injEq, Prod.mk.injEq] at hr
    obtain ⟨rfl, rfl⟩ := hr
    refine (sound_core hcall hc a2 a5).mono fun x w' ⟨E', q1, q2, q3, q4⟩ => ?_
    rw [applyP_append]
    exact ⟨E', q1, q2, a3.trans q3, q4⟩
  · simp at hr

/-- the call as a caller in a drawn region makes it: it is made ready inside the callee's own heap -/
def callP (C : Cfg) (call : CallF) : CallF := fun g args h => match aInvoke C call g args h with
  | some (e, p) => some (e, applyP h p)
  | none => none

theorem callP_ok {C : Cfg} {call : CallF} (hcall : CallOk C.P call) : CallOk C.P (callP C call) := by
  intro g args h e h' hr E w vs gd hv
  unfold callP at hr
  split at hr
  · rename_i e0 p hi
    simp only [Option.some.injEq, Prod.mk.injEq] at hr
    obtain ⟨rfl, rfl⟩ := hr
    exact sound_invoke hcall hi gd hv
  · simp at hr

end Go.Proofs.Ae

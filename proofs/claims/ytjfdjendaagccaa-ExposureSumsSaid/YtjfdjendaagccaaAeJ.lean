/-
  The abstract run's single steps, as equations to rewrite with.
-/
import Derived.Test.YtjfdjendaagccaaAeI
namespace Go.Proofs.Ae
open Go

section code
variable {C : Cfg} {call : CallF} {gi : GcI} {n : Nat} {t : List AVal} {h : AHeap}
theorem aCode_skip : aCode C call gi (n + 1) .skip t h = some (.normal, t, h) := rfl
theorem aCode_exit {id : Nat} : aCode C call gi (n + 1) (.exit id) t h = some (.exit id, t, h) := rfl
theorem aCode_ret : aCode C call gi (n + 1) .ret t h = some (.ret, t, h) := rfl
theorem aCode_ops {id : Nat} {ops : Array Oper} : aCode C call gi (n + 1) (.region id ops false) t h = aOps C call ops ops.toList t h := rfl
theorem aCode_draw {id : Nat} {ops : Array Oper} : aCode C call gi (n + 1) (.region id ops true) t h = aDraw C call ops t h := rfl
theorem aCode_seq {a b : Code} : aCode C call gi (n + 1) (.seq a b) t h = match aCode C call gi n a t h with
  | some (.normal, t1, h1) => aCode C call gi n b t1 h1
  | r => r := rfl
theorem aCode_cond {c : Operand} {a b : Code} {v : Bool} (hv : aEval t c = .sc (.bool v)) : aCode C call gi (n + 1) (.cond c a b) t h = if v = true then aCode C call gi n a t h else aCode C call gi n b t h := by
  simp only [aCode, hv]
  cases v <;> rfl
theorem aCode_block {id : Nat} {b : Code} : aCode C call gi (n + 1) (.block id b) t h = match aCode C call gi n b t h with
  | some (.exit id', t1, h1) => if id' = id then some (.normal, t1, h1) else some (.exit id', t1, h1)
  | r => r := rfl
theorem aCode_loop {b : Code} : aCode C call gi (n + 1) (.loop b) t h = match aCode C call gi n b (aGc gi b t h).1 (aGc gi b t h).2 with
  | some (.normal, t1, h1) => aCode C call gi n (.loop b) t1 h1
  | r => r := rfl
end code

/-! ### drawn regions in which nothing is written -/
def quietOp (C : Cfg) : Op → Bool
  | .move _ | .assign _ | .pick _ _ _ | .build _ _ | .load _ _ | .nilCheck _ | .fieldAddr _ _ _ | .field _ _ _ | .indexAddr _ _ _ | .index _ _ _ | .slice _ _ _ _ _ | .extract _ _
  | .makeInterface _ _ | .makeFunc _ _ _ | .binOp _ _ _ _ _ | .unOp _ _ _ => true
  | .convert s d x => !allocKind C (.convert s d x)
  | .call { callee := .builtin .len, .. } => true
  | _ => false

/-- the same operations, only what each looks at and gives -/
def looksOk (ops : Array Oper) (bef : List Nat) : Nat → List Oper → Bool
  | _, [] => true
  | i, x :: rest => (rest.zipIdx (i + 1)).all (fun y => (bef.getD y.2 0).testBit i ||
      ((match x.dst with
        | some d => !(y.1.looksAt ops).contains d && y.1.dst != some d
        | none => true) &&
      (match y.1.dst with
        | some d => !(x.looksAt ops).contains d
        | none => true))) && looksOk ops bef (i + 1) rest

def quietRegion (C : Cfg) (ops : Array Oper) (nt : Nat) : Bool :=
  let l := ops.toList
  l.all (fun o => quietOp C o.op && dstOk (List.replicate nt .top) o.dst) && edgesOk 0 l && looksOk ops (befM l []) 0 l

theorem quiet_two {r : Option AVal} {x : AVal × Patch} (h : quiet r = some x) : x.2 = [] := by
  cases r with
  | none => simp [quiet] at h
  | some y => simp [quiet] at h; subst h; rfl

theorem quiet_special {C : Cfg} {h : AHeap} {e : Operand → AVal} {op : Op} (hq : quietOp C op = true) :
    (∀ s, aSpecial C h s e op = aSpecial C h none e op) ∧ (∀ r, aSpecial C h none e op = some r → r.2 = []) ∧ allocKind C op = false := by
  cases op with
  | convert s d x =>
    simp only [quietOp, Bool.not_eq_true'] at hq
    have hb : ∀ (s' : Option Nat) (b : ByteArray), aToBytes C h s' d (.sc (.string b)) = none := fun s' b => by
      simp only [allocKind] at hq
      unfold aToBytes
      cases hd : C.ty d with
      | none => rfl
      | some i =>
        rw [hd] at hq
        simp only at hq ⊢
        cases hi : i.desc <;> rw [hi] at hq <;> simp at hq ⊢
    refine ⟨fun s' => ?_, fun r hr => ?_, hq⟩
    · simp only [aSpecial]
      split
      · split
        · rw [hb, hb]
        · rfl
      · rfl
      · rfl
      · rfl
      · rfl
    · simp only [aSpecial] at hr
      split at hr
      · split at hr
        · rw [hb] at hr; simp at hr
        · simp at hr
      · exact quiet_two hr
      · exact quiet_two hr
      · exact quiet_two hr
      · simp at hr
  | call c =>
    obtain ⟨callee, args, argTypes⟩ := c
    cases callee with
    | builtin b =>
      cases b <;> first | (simp [quietOp] at hq; done) | skip
      refine ⟨fun s => ?_, fun r hr => ?_, rfl⟩
      · obtain ⟨args⟩ := args
        obtain ⟨argTypes⟩ := argTypes
        rcases args with _ | ⟨a, _ | ⟨b, l⟩⟩ <;> rcases argTypes with _ | ⟨c, _ | ⟨d, m⟩⟩ <;> rfl
      · unfold aSpecial at hr
        split at hr <;> first | exact quiet_two hr | simp_all
    | _ => simp [quietOp] at hq
  | pick c a b =>
    refine ⟨fun s => rfl, fun r hr => ?_, rfl⟩
    simp only [aSpecial] at hr
    split at hr <;> simp at hr
    subst hr; rfl
  | nilCheck x =>
    refine ⟨fun s => rfl, fun r hr => ?_, rfl⟩
    simp only [aSpecial] at hr
    split at hr <;> simp at hr <;> subst hr <;> rfl
  | extract x i =>
    refine ⟨fun s => rfl, fun r hr => ?_, rfl⟩
    simp only [aSpecial] at hr
    split at hr
    · exact quiet_two hr
    · simp at hr
  | makeInterface t x =>
    refine ⟨fun s => rfl, fun r hr => ?_, rfl⟩
    simp only [aSpecial] at hr
    split at hr
    · split at hr <;> simp at hr
      subst hr; rfl
    · simp at hr
  | binOp op t x y ty =>
    refine ⟨fun s => by cases op <;> rfl, fun r hr => ?_, rfl⟩
    unfold aSpecial at hr
    split at hr <;> first | (simp at hr; done) | skip
    all_goals simp_all
    all_goals first | (obtain ⟨_, rfl⟩ := hr; rfl) | skip
  | move x => exact ⟨fun s => rfl, fun r hr => by simp [aSpecial] at hr; subst hr; rfl, rfl⟩
  | assign x => exact ⟨fun s => rfl, fun r hr => by simp [aSpecial] at hr; subst hr; rfl, rfl⟩
  | makeFunc f a b => exact ⟨fun s => rfl, fun r hr => by simp [aSpecial] at hr; subst hr; rfl, rfl⟩
  | unOp a b x => exact ⟨fun s => rfl, fun r hr => by simp [aSpecial] at hr, rfl⟩
  | build t ps => exact ⟨fun s => rfl, fun r hr => quiet_two hr, rfl⟩
  | load t a => exact ⟨fun s => rfl, fun r hr => quiet_two hr, rfl⟩
  | fieldAddr t x f => exact ⟨fun s => rfl, fun r hr => quiet_two hr, rfl⟩
  | field t x f => exact ⟨fun s => rfl, fun r hr => quiet_two hr, rfl⟩
  | indexAddr t x ix => exact ⟨fun s => rfl, fun r hr => quiet_two hr, rfl⟩
  | index t x ix => exact ⟨fun s => rfl, fun r hr => quiet_two hr, rfl⟩
  | slice t x lo hi mx => exact ⟨fun s => rfl, fun r hr => quiet_two hr, rfl⟩
  | _ => simp [quietOp] at hq

theorem quiet_step {C : Cfg} {call : CallF} {h : AHeap} {t : List AVal} {o : Oper} (hq : quietOp C o.op = true) {d : Bool} {s : Option Nat} {r : AEnd × Patch} (hr : aStep C call d h s t o = some r) :
    ∃ v, r = (.ret v, []) ∧ aStep C call true h none t o = some (.ret v, []) := by
  have hop : ∀ s', aOp C h s' t o = aOp C h none t o := fun s' => by
    unfold aOp; rw [(quiet_special hq).1 s']
  have hnil : ∀ x, aOp C h none t o = some x → x.2 = [] := fun x hx => by
    unfold aOp at hx
    split at hx
    · simp only [Option.some.injEq] at hx
      subst hx
      rfl
    · split at hx
      · rename_i y hy
        simp only [Option.some.injEq] at hx
        subst hx
        exact (quiet_special hq).2.1 _ hy
      · exact quiet_two hx
  have key : ∀ d' s', aStep C call d' h s' t o = match aOp C h s' t o with
      | some (v, p) => some (.ret v, p)
      | none => none := fun d' s' => by
    obtain ⟨dst, op, ty, pos, after, guard⟩ := o
    unfold aStep
    cases op <;> first | rfl | (simp [quietOp] at hq; done) | skip
    rename_i c
    obtain ⟨callee, args, argTypes⟩ := c
    cases callee with
    | builtin b => rfl
    | _ => simp [quietOp] at hq
  rw [key, hop] at hr
  rw [key]
  split at hr
  · rename_i v p hv
    have := hnil _ hv
    simp only at this
    subst this
    simp only [Option.some.injEq] at hr
    subst hr
    exact ⟨v, rfl, rfl⟩
  · simp at hr

theorem foot_quiet {C : Cfg} {h : AHeap} {t : List AVal} {o : Oper} (hq : quietOp C o.op = true) : (foot h none t o).2 = [] := by
  obtain ⟨dst, op, ty, pos, after, guard⟩ := o
  cases op <;> first | rfl | (simp [quietOp] at hq; done) | skip
  rename_i c
  obtain ⟨callee, args, argTypes⟩ := c
  cases callee with
  | builtin b => cases b <;> first | rfl | (simp [quietOp] at hq; done)
  | _ => simp [quietOp] at hq

theorem dstOk_len {t : List AVal} {d : Option Tmp} {n : Nat} (hn : t.length = n) (h : dstOk (List.replicate n .top) d = true) : dstOk t d = true := by
  unfold dstOk at h ⊢
  split at h
  · simpa [hn] using h
  · rfl

theorem drawGo_quiet {C : Cfg} {call : CallF} {ops : Array Oper} : ∀ (l : List Oper) (n : Nat) {t : List AVal} {h : AHeap} {t' : List AVal} {h' : AHeap},
    l.all (fun o => quietOp C o.op && dstOk (List.replicate t.length .top) o.dst) = true → aOps C call ops l t h = some (.normal, t', h') →
    h' = h ∧ nSlots C l = 0 ∧ ∃ es, drawGo C call ops (withSlots C n l) t h = some es ∧ replayT es t = t' ∧ replayH es h = h ∧ (∀ e, e ∈ es → e.wr = []) ∧
      es.map (fun e => (e.dst, e.looks)) = l.map (fun o => (o.dst, o.looksAt ops))
  | [], n, t, h, t', h', _, hr => by
    simp only [aOps, Option.some.injEq, Prod.mk.injEq, true_and] at hr
    obtain ⟨rfl, rfl⟩ := hr
    exact ⟨rfl, rfl, [], rfl, rfl, rfl, fun e he => by simp at he, rfl⟩
  | o :: l, n, t, h, t', h', hl, hr => by
    simp only [List.all_cons, Bool.and_eq_true] at hl
    obtain ⟨⟨hq, hd⟩, hl⟩ := hl
    have hd' := dstOk_len rfl hd
    have ha := (quiet_special (C := C) (h := h) (e := aEval t) hq).2.2
    have hws : withSlots C n (o :: l) = (o, none) :: withSlots C n l := by simp [withSlots, ha]
    have hns : nSlots C (o :: l) = nSlots C l := by simp [nSlots, ha]
    rw [hws, hns]
    simp only [aOps] at hr
    split at hr
    · rename_i hw
      obtain ⟨rfl, h0, es, h1, h2, h3, h4, h5⟩ := drawGo_quiet l n (by rw [aPut_length]; exact hl) hr
      refine ⟨rfl, h0, { dst := o.dst, looks := o.looksAt ops, rd := [], wr := [], v := .tup [], p := [] } :: es, ?_, h2, h3, ?_, by simp [h5]⟩
      · simp only [drawGo, hd', if_true, hw, h1]
      · intro e he
        rcases List.mem_cons.1 he with rfl | he
        · rfl
        · exact h4 e he
    · rename_i hw
      split at hr
      · rename_i v p hst
        obtain ⟨v', hv', hst'⟩ := quiet_step hq hst
        simp only [Prod.mk.injEq, AEnd.ret.injEq] at hv'
        obtain ⟨rfl, rfl⟩ := hv'
        obtain ⟨rfl, h0, es, h1, h2, h3, h4, h5⟩ := drawGo_quiet l n (by rw [aPut_length]; exact hl) hr
        have hf := foot_quiet (h := h') (t := t) hq
        refine ⟨rfl, h0, { dst := o.dst, looks := o.looksAt ops, rd := (foot h' none t o).1, wr := (foot h' none t o).2, v := v, p := [] } :: es, ?_, h2, h3, ?_, by simp [h5]⟩
        · simp only [drawGo, hd', if_true, hw, hst', List.all_nil]
          rw [show applyP h' [] = h' from rfl] at h1 ⊢
          rw [h1]
        · intro e he
          rcases List.mem_cons.1 he with rfl | he
          · exact hf
          · exact h4 e he
      · simp at hr
      · simp at hr
    · simp at hr

theorem pairs_quiet {ops : Array Oper} {bef : List Nat} : ∀ {es : List Ent} {l : List Oper} {i : Nat}, (∀ e, e ∈ es → e.wr = []) → es.map (fun e => (e.dst, e.looks)) = l.map (fun o => (o.dst, o.looksAt ops)) →
    looksOk ops bef i l = true → pairsOk bef i es = true
  | [], _, _, _, _, _ => rfl
  | e :: es, [], _, _, hm, _ => by simp at hm
  | e :: es, o :: l, i, hw, hm, hl => by
    simp only [List.map_cons, List.cons.injEq, Prod.mk.injEq] at hm
    obtain ⟨⟨hm1, hm2⟩, hm3⟩ := hm
    simp only [looksOk, Bool.and_eq_true] at hl
    simp only [pairsOk, Bool.and_eq_true]
    refine ⟨?_, pairs_quiet (fun e he => hw e (List.mem_cons_of_mem _ he)) hm3 hl.2⟩
    rw [List.all_eq_true] at hl ⊢
    intro y hy
    obtain ⟨j, hj⟩ := List.getElem?_of_mem hy
    rw [List.getElem?_zipIdx] at hj
    cases hej : es[j]? with
    | none => simp [hej] at hj
    | some ej =>
      simp only [hej, Option.map_some, Option.some.injEq] at hj
      subst hj
      have hlen : es.length = l.length := by have := congrArg List.length hm3; simpa using this
      have hlt : j < l.length := by rw [← hlen]; exact (List.getElem?_eq_some_iff.1 hej).1
      have hoj : l[j]? = some l[j] := List.getElem?_eq_getElem hlt
      have hmj := congrArg (fun x => x[j]?) hm3
      simp only [List.getElem?_map, hej, hoj, Option.map_some, Option.some.injEq, Prod.mk.injEq] at hmj
      have := hl.1 (l[j], i + 1 + j) (by
        apply List.mem_of_getElem? (i := j)
        rw [List.getElem?_zipIdx, hoj]
        rfl)
      simp only [Bool.or_eq_true] at this ⊢
      rcases this with h1 | h1
      · exact .inl h1
      · refine .inr ?_
        have hw1 := hw e (by simp)
        have hw2 := hw ej (List.mem_cons_of_mem _ (List.mem_of_getElem? hej))
        simp only [Ent.apart, hw1, hw2, hm1, hm2, hmj.1, hmj.2, List.append_nil]
        simp only [Bool.and_eq_true] at h1 ⊢
        exact ⟨⟨⟨h1.1, h1.2⟩, rfl⟩, by simp [disj]⟩

theorem aDraw_quiet {C : Cfg} {call : CallF} {ops : Array Oper} {t : List AVal} {h : AHeap} {t' : List AVal} {h' : AHeap} (hq : quietRegion C ops t.length = true)
    (hr : aOps C call ops ops.toList t h = some (.normal, t', h')) : aDraw C call ops t h = some (.normal, t', h') := by
  simp only [quietRegion, Bool.and_eq_true] at hq
  obtain ⟨⟨h1, h2⟩, h3⟩ := hq
  obtain ⟨rfl, h0, es, k1, k2, k3, k4, k5⟩ := drawGo_quiet ops.toList h.length h1 hr
  unfold aDraw
  simp only [h0, List.replicate_zero, List.append_nil, k1, h2, pairs_quiet k4 k5 h3, Bool.and_self, if_true, k2, k3]

def aDrawX (C : Cfg) (call : CallF) (ops : Array Oper) (t : List AVal) (h : AHeap) := aDraw C call ops t h
def aStepX (C : Cfg) (call : CallF) (d : Bool) (h : AHeap) (s : Option Nat) (t : List AVal) (o : Oper) := aStep C call d h s t o

theorem aCode_quiet {C : Cfg} {call : CallF} {gi : GcI} {n id nt : Nat} {ops : Array Oper} {t : List AVal} {h : AHeap} (hn : t.length = nt) (hq : quietRegion C ops nt = true) :
    aCode C call gi (n + 1) (.region id ops true) t h = match aOps C call ops ops.toList t h with
      | some (.normal, t', h') => some (.normal, t', h')
      | _ => aDrawX C call ops t h := by
  subst hn
  split
  · rename_i t' h' he
    rw [aCode_draw, aDraw_quiet hq he]
  · rfl

/-! ### one operation each -/
def qr (r : Option AVal) (f : Option (AEnd × Patch)) : Option (AEnd × Patch) := match r with
  | some v => some (.ret v, [])
  | none => f
theorem qr_some {v : AVal} {f : Option (AEnd × Patch)} : qr (some v) f = some (.ret v, []) := rfl
def rr (r : Option (AVal × Patch)) (f : Option (AEnd × Patch)) : Option (AEnd × Patch) := match r with
  | some (v, p) => some (.ret v, p)
  | none => f
theorem rr_some {v : AVal} {p : Patch} {f : Option (AEnd × Patch)} : rr (some (v, p)) f = some (.ret v, p) := rfl

section step
variable {C : Cfg} {call : CallF} {d : Bool} {h : AHeap} {s : Option Nat} {t : List AVal} {dst : Option Tmp} {tt : TypeId} {ps : String} {af : Array Edge} {g : Option (Nat × Bool)}

theorem step_of {o : Oper} {r : Option (AVal × Patch)} (hs : ∀ x, r = some x → aStep C call d h s t o = some (.ret x.1, x.2)) : aStep C call d h s t o = rr r (aStepX C call d h s t o) := by
  cases r with
  | none => rfl
  | some x => exact hs x rfl

theorem step_ofq {o : Oper} {r : Option AVal} (hs : ∀ x, r = some x → aStep C call d h s t o = some (.ret x, [])) : aStep C call d h s t o = qr r (aStepX C call d h s t o) := by
  cases r with
  | none => rfl
  | some x => exact hs x rfl

theorem st_move {x : Operand} : aStep C call d h s t ⟨dst, .move x, tt, ps, af, g⟩ = some (.ret (aEval t x), []) := rfl
theorem st_assign {x : Operand} : aStep C call d h s t ⟨dst, .assign x, tt, ps, af, g⟩ = some (.ret (aEval t x), []) := rfl
theorem st_makeFunc {f : Fn} {a b : Array Operand} : aStep C call d h s t ⟨dst, .makeFunc f a b, tt, ps, af, g⟩ = some (.ret (.clo f (a.toList.map (aEval t)) (b.toList.map (aEval t))), []) := rfl
theorem st_load {ty : TypeId} {a : Operand} : aStep C call d h s t ⟨dst, .load ty a, tt, ps, af, g⟩ = qr (aLoad C h ty (aEval t a)) (aStepX C call d h s t ⟨dst, .load ty a, tt, ps, af, g⟩) :=
  step_ofq fun x hx => by simp only [aStep, aOp, aFast, aSpecial, hx, quiet]
theorem st_fieldAddr {ty : TypeId} {a : Operand} {f : Nat} : aStep C call d h s t ⟨dst, .fieldAddr ty a f, tt, ps, af, g⟩ = qr (aFieldAddr C ty (aEval t a) f) (aStepX C call d h s t ⟨dst, .fieldAddr ty a f, tt, ps, af, g⟩) :=
  step_ofq fun x hx => by simp only [aStep, aOp, aFast, aSpecial, hx, quiet]
theorem st_field {ty : TypeId} {a : Operand} {f : Nat} : aStep C call d h s t ⟨dst, .field ty a f, tt, ps, af, g⟩ = qr (aField C ty (aEval t a) f) (aStepX C call d h s t ⟨dst, .field ty a f, tt, ps, af, g⟩) :=
  step_ofq fun x hx => by simp only [aStep, aOp, aFast, aSpecial, hx, quiet]
theorem st_indexAddr {ty : TypeId} {a b : Operand} : aStep C call d h s t ⟨dst, .indexAddr ty a b, tt, ps, af, g⟩ = qr (aIndexAddr C ty (aEval t a) (aEval t b)) (aStepX C call d h s t ⟨dst, .indexAddr ty a b, tt, ps, af, g⟩) :=
  step_ofq fun x hx => by simp only [aStep, aOp, aFast, aSpecial, hx, quiet]
theorem st_index {ty : TypeId} {a b : Operand} : aStep C call d h s t ⟨dst, .index ty a b, tt, ps, af, g⟩ = qr (aIndex C ty (aEval t a) (aEval t b)) (aStepX C call d h s t ⟨dst, .index ty a b, tt, ps, af, g⟩) :=
  step_ofq fun x hx => by simp only [aStep, aOp, aFast, aSpecial, hx, quiet]
theorem st_slice {ty : TypeId} {a : Operand} {lo hi mx : Option Operand} : aStep C call d h s t ⟨dst, .slice ty a lo hi mx, tt, ps, af, g⟩ =
    qr (aSlice C ty (aEval t a) (lo.map (aEval t)) (hi.map (aEval t)) (mx.map (aEval t))) (aStepX C call d h s t ⟨dst, .slice ty a lo hi mx, tt, ps, af, g⟩) :=
  step_ofq fun x hx => by simp only [aStep, aOp, aFast, aSpecial, hx, quiet]
theorem st_build {ty : TypeId} {ps' : Array (Nat × Operand)} : aStep C call d h s t ⟨dst, .build ty ps', tt, ps, af, g⟩ =
    qr (aBuild C ty (ps'.toList.map fun p => (p.1, aEval t p.2))) (aStepX C call d h s t ⟨dst, .build ty ps', tt, ps, af, g⟩) :=
  step_ofq fun x hx => by simp only [aStep, aOp, aFast, aSpecial, hx, quiet]
def pickV (c x y : AVal) : Option AVal := match c with
  | .sc (.bool b) => some (if b then x else y)
  | _ => none
theorem st_pick {c x y : Operand} : aStep C call d h s t ⟨dst, .pick c x y, tt, ps, af, g⟩ = qr (pickV (aEval t c) (aEval t x) (aEval t y)) (aStepX C call d h s t ⟨dst, .pick c x y, tt, ps, af, g⟩) :=
  step_ofq fun v hv => by
    simp only [aStep, aOp, aFast, aSpecial]
    generalize aEval t c = z at hv ⊢
    unfold pickV at hv
    split at hv
    · simp only [Option.some.injEq] at hv; subst hv; rfl
    · simp at hv
def nilV (x : AVal) : Option AVal := match x with
  | .ptr l off lim => some (.ptr l off lim)
  | .fp cells => some (.fp cells)
  | .ifc t v => some (.ifc t v)
  | .clo (.func f) fi ca => some (.clo (.func f) fi ca)
  | _ => none
theorem st_nilCheck {x : Operand} : aStep C call d h s t ⟨dst, .nilCheck x, tt, ps, af, g⟩ = qr (nilV (aEval t x)) (aStepX C call d h s t ⟨dst, .nilCheck x, tt, ps, af, g⟩) :=
  step_ofq fun v hv => by
    simp only [aStep, aOp, aFast, aSpecial]
    generalize aEval t x = z at hv ⊢
    unfold nilV at hv
    split at hv <;> first | (simp only [Option.some.injEq] at hv; subst hv; rfl) | simp at hv
def extV (x : AVal) (i : Nat) : Option AVal := match x with
  | .tup vs => vs[i]?
  | _ => none
theorem st_extract {x : Operand} {i : Nat} : aStep C call d h s t ⟨dst, .extract x i, tt, ps, af, g⟩ = qr (extV (aEval t x) i) (aStepX C call d h s t ⟨dst, .extract x i, tt, ps, af, g⟩) :=
  step_ofq fun v hv => by
    simp only [aStep, aOp, aFast, aSpecial]
    generalize aEval t x = z at hv ⊢
    unfold extV at hv
    split at hv
    · simp only [hv, quiet]
    · simp at hv
def binV (op : BinOp) (x y : AVal) : Option AVal := match x, y with
  | .sc (.int k a), .sc (.int k' b) => if k = k' then intBin op k a b else none
  | _, _ => none
theorem st_binOp {op : BinOp} {ty yt : TypeId} {x y : Operand} : aStep C call d h s t ⟨dst, .binOp op ty x y yt, tt, ps, af, g⟩ = qr (binV op (aEval t x) (aEval t y)) (aStepX C call d h s t ⟨dst, .binOp op ty x y yt, tt, ps, af, g⟩) :=
  step_ofq fun v hv => by
    have : aFast C (aEval t) (.binOp op ty x y yt) = some v := by
      simp only [aFast]
      unfold binV at hv
      exact hv
    simp only [aStep, aOp, this]
def unV (op : UnOp) (x : AVal) : Option AVal := match op, x with
  | .not, .sc (.bool b) => some (.sc (.bool !b))
  | .neg, .sc (.int k n) => some (.sc (.int k (k.wrap (0 - n))))
  | _, _ => none
theorem st_unOp {op : UnOp} {ty : TypeId} {x : Operand} : aStep C call d h s t ⟨dst, .unOp op ty x, tt, ps, af, g⟩ = qr (unV op (aEval t x)) (aStepX C call d h s t ⟨dst, .unOp op ty x, tt, ps, af, g⟩) :=
  step_ofq fun v hv => by
    have : aFast C (aEval t) (.unOp op ty x) = some v := by
      simp only [aFast]
      unfold unV at hv
      exact hv
    simp only [aStep, aOp, this]
def convV (C : Cfg) (sT dT : TypeId) (x : AVal) : Option AVal := match x with
  | .sc (.int _ n) => match C.ty sT, C.ty dT with
    | some _, some i => match i.desc with
      | .int k => some (.sc (.int k (k.wrap n)))
      | _ => none
    | _, _ => none
  | _ => none
theorem st_convert {sT dT : TypeId} {x : Operand} : aStep C call d h s t ⟨dst, .convert sT dT x, tt, ps, af, g⟩ = qr (convV C sT dT (aEval t x)) (aStepX C call d h s t ⟨dst, .convert sT dT x, tt, ps, af, g⟩) :=
  step_ofq fun v hv => by
    have : aFast C (aEval t) (.convert sT dT x) = some v := by
      simp only [aFast]
      unfold convV at hv
      exact hv
    simp only [aStep, aOp, this]
theorem st_len {x : Operand} {ty : TypeId} : aStep C call d h s t ⟨dst, .call { callee := .builtin .len, args := ⟨[x]⟩, argTypes := ⟨[ty]⟩ }, tt, ps, af, g⟩ =
    qr (aLen C ty (aEval t x)) (aStepX C call d h s t ⟨dst, .call { callee := .builtin .len, args := ⟨[x]⟩, argTypes := ⟨[ty]⟩ }, tt, ps, af, g⟩) :=
  step_ofq fun v hv => by simp only [aStep, aOp, aFast, aSpecial, hv, quiet]
theorem st_append {x y : Operand} {ty ty' : TypeId} : aStep C call d h s t ⟨dst, .call { callee := .builtin .append, args := ⟨[x, y]⟩, argTypes := ⟨[ty, ty']⟩ }, tt, ps, af, g⟩ =
    rr (aAppend C h s ty ty' (aEval t x) (aEval t y)) (aStepX C call d h s t ⟨dst, .call { callee := .builtin .append, args := ⟨[x, y]⟩, argTypes := ⟨[ty, ty']⟩ }, tt, ps, af, g⟩) :=
  step_of fun v hv => by simp only [aStep, aOp, aFast, aSpecial, hv]
theorem st_alloc {ty : TypeId} : aStep C call d h s t ⟨dst, .alloc ty, tt, ps, af, g⟩ = rr (aAlloc C h s ty) (aStepX C call d h s t ⟨dst, .alloc ty, tt, ps, af, g⟩) :=
  step_of fun v hv => by simp only [aStep, aOp, aFast, aSpecial, hv]
theorem st_box {ty : TypeId} {x : Operand} : aStep C call d h s t ⟨dst, .box ty x, tt, ps, af, g⟩ = rr (aBox h s (aEval t x)) (aStepX C call d h s t ⟨dst, .box ty x, tt, ps, af, g⟩) :=
  step_of fun v hv => by simp only [aStep, aOp, aFast, aSpecial, hv]
theorem st_buildSlice {ty : TypeId} {n : Nat} {ps' : Array (Nat × Operand)} : aStep C call d h s t ⟨dst, .buildSlice ty n ps', tt, ps, af, g⟩ =
    rr (aBuildSlice C h s ty n (ps'.toList.map fun p => (p.1, aEval t p.2))) (aStepX C call d h s t ⟨dst, .buildSlice ty n ps', tt, ps, af, g⟩) :=
  step_of fun v hv => by simp only [aStep, aOp, aFast, aSpecial, hv]
theorem st_makeSlice {ty : TypeId} {x y : Operand} : aStep C call d h s t ⟨dst, .makeSlice ty x y, tt, ps, af, g⟩ = rr (aMakeSlice C h s ty (aEval t x) (aEval t y)) (aStepX C call d h s t ⟨dst, .makeSlice ty x y, tt, ps, af, g⟩) :=
  step_of fun v hv => by simp only [aStep, aOp, aFast, aSpecial, hv]
def storeV (r : Option Patch) : Option (AVal × Patch) := match r with
  | some p => some (.tup [], p)
  | none => none
theorem st_store {ty : TypeId} {a x : Operand} : aStep C call d h s t ⟨dst, .store ty a x, tt, ps, af, g⟩ = rr (storeV (aStore C h ty (aEval t a) (aEval t x))) (aStepX C call d h s t ⟨dst, .store ty a x, tt, ps, af, g⟩) :=
  step_of fun v hv => by
    cases hs : aStore C h ty (aEval t a) (aEval t x) with
    | none => simp [hs, storeV] at hv
    | some p =>
      simp only [hs, storeV, Option.some.injEq] at hv
      subst hv
      simp only [aStep, aOp, aFast, aSpecial, hs]
theorem st_call {f : FuncId} {as : Array Operand} {ty : Array TypeId} {i : FnI} (hf : C.fn f = some i) : aStep C call false h s t ⟨dst, .call { callee := .value (.func f), args := as, argTypes := ty }, tt, ps, af, g⟩ =
    aInvoke C call f (as.toList.map (aEval t)) h := by
  simp only [aStep, aEval, hf, List.nil_append, List.append_nil]
  rfl
theorem st_calld {f : FuncId} {as : Array Operand} {ty : Array TypeId} {i : FnI} (hf : C.fn f = some i) : aStep C call true h s t ⟨dst, .call { callee := .value (.func f), args := as, argTypes := ty }, tt, ps, af, g⟩ =
    aCore (callP C call) f (as.toList.map (aEval t)) h := by
  simp only [aStep, aEval, hf, List.nil_append, List.append_nil]
  rfl
end step

theorem aCode_cnd {C : Cfg} {call : CallF} {gi : GcI} {n : Nat} {t : List AVal} {h : AHeap} {c : Operand} {a b : Code} :
  aCode C call gi (n + 1) (.cond c a b) t h = match aEval t c with
      | .sc (.bool true) => aCode C call gi n a t h
      | .sc (.bool false) => aCode C call gi n b t h
      | _ => none := rfl

theorem wrap_i64 {x : Int} (h0 : -(2^63) ≤ x) (h : x < 2^63) : IntKind.i64.wrap x = x := by
  simp only [IntKind.wrap, IntKind.bits, IntKind.signed]
  simp
  omega

end Go.Proofs.Ae

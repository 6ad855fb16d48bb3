/-
  A region whose order is drawn: run once in the text's order, with a look at what each operation touches.
-/
import Derived.Test.YtjfdjendaagccaaAeE
namespace Go.Proofs.Ae
open Go

def allocKind (C : Cfg) : Op → Bool
  | .alloc _ | .box _ _ | .buildSlice _ _ _ | .makeSlice _ _ _ => true
  | .convert _ d _ => match C.ty d with
    | some i => match i.desc with
      | .slice _ => true
      | _ => false
    | none => false
  | .call { callee := .builtin .append, .. } => true
  | _ => false

def withSlots (C : Cfg) : Nat → List Oper → List (Oper × Option Nat)
  | _, [] => []
  | n, o :: r => if allocKind C o.op = true then (o, some n) :: withSlots C (n + 1) r else (o, none) :: withSlots C n r

def nSlots (C : Cfg) : List Oper → Nat
  | [] => 0
  | o :: r => if allocKind C o.op = true then nSlots C r + 1 else nSlots C r

/-- which objects an operation reads, and which it writes -/
def foot (h : AHeap) (slot : Option Nat) (t : List AVal) (o : Oper) : List Nat × List Nat :=
  let e := aEval t
  match o.op with
  | .alloc _ | .box _ _ | .buildSlice _ _ _ | .makeSlice _ _ _ => ([], slot.toList)
  | .load _ a => (locs (e a), [])
  | .store _ a _ => ([], locs (e a))
  | .convert _ _ x => (locs (e x), slot.toList)
  | .call { callee := .builtin .append, args, .. } => ([], args.toList.flatMap (fun x => locs (e x)) ++ slot.toList)
  | .call { callee := .builtin .copy, args, .. } => ([], args.toList.flatMap (fun x => locs (e x)))
  | .call { callee := .builtin .clear, args, .. } => ([], args.toList.flatMap (fun x => locs (e x)))
  | .call { callee := .value f, args, .. } => match e f with
    | .clo _ fi ca => ([], reach 8 h (nub (locsL (fi ++ args.toList.map e ++ ca))))
    | _ => ([], [])
  | _ => ([], [])

structure Ent where
  dst : Option Tmp
  looks : List Tmp
  rd : List Nat
  wr : List Nat
  v : AVal
  p : Patch

def dstOk (t : List AVal) (dst : Option Tmp) : Bool := match dst with
  | some d => decide (d < t.length)
  | none => true

def drawGo (C : Cfg) (call : CallF) (ops : Array Oper) : List (Oper × Option Nat) → List AVal → AHeap → Option (List Ent)
  | [], _, _ => some []
  | (o, s) :: rest, t, h =>
    if dstOk t o.dst = true then
      match aWanted ops t o with
      | some false => match drawGo C call ops rest (aPut t o.dst (.tup [])) h with
        | some es => some ({ dst := o.dst, looks := o.looksAt ops, rd := [], wr := [], v := .tup [], p := [] } :: es)
        | none => none
      | some true => match aStep C call true h s t o with
        | some (.ret v, p) =>
          let f := foot h s t o
          if p.all (fun x => f.2.contains x.1 && decide (x.1 < h.length)) = true then
            match drawGo C call ops rest (aPut t o.dst v) (applyP h p) with
            | some es => some ({ dst := o.dst, looks := o.looksAt ops, rd := f.1, wr := f.2, v := v, p := p } :: es)
            | none => none
          else none
        | _ => none
      | none => none
    else none

def disj (a b : List Nat) : Bool := a.all fun x => !b.contains x

def Ent.apart (x y : Ent) : Bool :=
  (match x.dst with
    | some d => !y.looks.contains d && y.dst != some d
    | none => true) &&
  (match y.dst with
    | some d => !x.looks.contains d
    | none => true) &&
  disj x.wr (y.rd ++ y.wr) && disj x.rd y.wr

/-- each two operations that may change places do not touch the same -/
def befStep (acc : List Nat) : List Edge → Nat → Nat
  | [], s => s
  | e :: es, s => befStep acc es (if Region.binds .any e = true then s ||| 2 ^ e.on ||| acc.getD e.on 0 else s)

/-- which operations come before each one, as bits -/
def befM : List Oper → List Nat → List Nat
  | [], acc => acc
  | o :: r, acc => befM r (acc ++ [befStep acc o.after.toList 0])

def edgesOk : Nat → List Oper → Bool
  | _, [] => true
  | i, o :: r => o.after.toList.all (fun e => !Region.binds .any e || decide (e.on < i)) && edgesOk (i + 1) r

def pairsOk (bef : List Nat) : Nat → List Ent → Bool
  | _, [] => true
  | i, x :: rest => (rest.zipIdx (i + 1)).all (fun y => (bef.getD y.2 0).testBit i || x.apart y.1) && pairsOk bef (i + 1) rest

def replayT : List Ent → List AVal → List AVal
  | [], t => t
  | e :: es, t => replayT es (aPut t e.dst e.v)
def replayH : List Ent → AHeap → AHeap
  | [], h => h
  | e :: es, h => replayH es (applyP h e.p)

def aDraw (C : Cfg) (call : CallF) (ops : Array Oper) (t : List AVal) (h : AHeap) : Option (AExit × List AVal × AHeap) :=
  let l := ops.toList
  let h0 := h ++ List.replicate (nSlots C l) .dead
  match drawGo C call ops (withSlots C h.length l) t h0 with
  | some es => if (edgesOk 0 l && pairsOk (befM l []) 0 es) = true then some (.normal, replayT es t, replayH es h0) else none
  | none => none

/-! ### what is read, and what is written -/
def lookP : Patch → Nat → Option AObj
  | [], _ => none
  | (k, o) :: p, l => match lookP p l with
    | some o' => some o'
    | none => if k = l then some o else none

theorem lookP_mem : ∀ {p : Patch} {l : Nat} {o : AObj}, lookP p l = some o → ∃ x, x ∈ p ∧ x.1 = l
  | (k, o) :: p, l, x, h => by
    simp only [lookP] at h
    split at h
    · rename_i o' ho
      obtain ⟨y, h1, h2⟩ := lookP_mem ho
      exact ⟨y, List.mem_cons_of_mem _ h1, h2⟩
    · split at h
      · rename_i hk
        exact ⟨(k, o), List.mem_cons_self, hk⟩
      · simp at h

theorem applyP_look : ∀ (p : Patch) (h : AHeap), (∀ x, x ∈ p → x.1 < h.length) → (applyP h p).length = h.length ∧
    ∀ l : Nat, (applyP h p)[l]? = match lookP p l with | some o => some o | none => h[l]?
  | [], h, _ => by simp [applyP, lookP]
  | (k, o) :: p, h, hp => by
    have hk : k < h.length := hp _ List.mem_cons_self
    obtain ⟨h1, h2⟩ := applyP_look p (h.set k o) (fun x hx => by simpa using hp x (List.mem_cons_of_mem _ hx))
    simp only [applyP, hk, if_true]
    refine ⟨by rw [h1]; simp, fun l => ?_⟩
    rw [h2]
    simp only [lookP]
    cases lookP p l with
    | some o' => rfl
    | none =>
      simp only
      by_cases hkl : k = l
      · subst hkl; simp [hk]
      · rw [List.getElem?_set_ne hkl]; simp [hkl]

def updT (e : Ent) (x : Nat) : Option AVal := if e.dst = some x then some e.v else none
def updH (e : Ent) (l : Nat) : Option AObj := lookP e.p l

theorem aPut_look {t : List AVal} {dst : Option Tmp} {v : AVal} (h : dstOk t dst = true) (x : Nat) : (aPut t dst v)[x]? = if dst = some x then some v else t[x]? := by
  cases dst with
  | none => simp [aPut]
  | some d =>
    simp only [dstOk, decide_eq_true_eq] at h
    simp only [aPut, Option.some.injEq]
    by_cases hx : d = x
    · subst hx; rw [List.getElem?_set_self h]; simp
    · rw [List.getElem?_set_ne hx]; simp [hx]

theorem aPut_length (t : List AVal) (dst : Option Tmp) (v : AVal) : (aPut t dst v).length = t.length := by
  cases dst <;> simp [aPut]

/-- the entries of a set, replayed in their order, seen place by place -/
def repF {α : Type} (u : Ent → Nat → Option α) (S : Nat → Bool) : Nat → List Ent → (Nat → Option α) → Nat → Option α
  | _, [], f, x => f x
  | i, e :: es, f, x => repF u S (i + 1) es (fun y => if S i = true then (match u e y with | some v => some v | none => f y) else f y) x

theorem repF_agree {α : Type} (u : Ent → Nat → Option α) {S S' : Nat → Bool} {x : Nat} : ∀ (es : List Ent) (i : Nat) (f f' : Nat → Option α), f x = f' x →
    (∀ (k : Nat) (e : Ent), es[k]? = some e → S (i + k) ≠ S' (i + k) → u e x = none) → repF u S i es f x = repF u S' i es f' x
  | [], _, _, _, hf, _ => hf
  | e :: es, i, f, f', hf, h => by
    simp only [repF]
    refine repF_agree u es (i + 1) _ _ ?_ fun k e' hk hne => h (k + 1) e' (by simpa using hk) (by rwa [show i + (k + 1) = i + 1 + k by omega])
    have h0 := h 0 e (by simp)
    simp only [Nat.add_zero] at h0
    by_cases hs : S i = S' i
    · rw [hs, hf]
    · rw [h0 hs]; simp [hf]

theorem repF_last {α : Type} (u : Ent → Nat → Option α) {S : Nat → Bool} {x : Nat} {v : α} : ∀ (es : List Ent) (i : Nat) (f : Nat → Option α) (j : Nat) (e : Ent), es[j]? = some e → S (i + j) = true → u e x = some v →
    (∀ (k : Nat) (e' : Ent), es[k]? = some e' → j < k → S (i + k) = true → u e' x = none) → repF u S i es f x = some v
  | [], _, _, j, e, h, _, _, _ => by simp at h
  | e0 :: es, i, f, 0, e, h, hs, hu, hl => by
    simp only [List.getElem?_cons_zero, Option.some.injEq] at h
    subst h
    simp only [Nat.add_zero] at hs
    simp only [repF, hs, if_true]
    have hz : ∀ (es : List Ent) (i : Nat) (f : Nat → Option α), f x = some v → (∀ (k : Nat) (e' : Ent), es[k]? = some e' → S (i + k) = true → u e' x = none) → repF u S i es f x = some v := by
      intro es
      induction es with
      | nil => intro i f hf _; exact hf
      | cons e1 es ih =>
        intro i f hf hn
        simp only [repF]
        refine ih (i + 1) _ ?_ fun k e' hk hs => hn (k + 1) e' (by simpa using hk) (by rwa [show i + (k + 1) = i + 1 + k by omega])
        have h0 := hn 0 e1 (by simp)
        simp only [Nat.add_zero] at h0
        by_cases hs : S i = true
        · simp [hs, h0 hs, hf]
        · simp [hs, hf]
    refine hz es (i + 1) _ (by simp [hu]) fun k e' hk hs => hl (k + 1) e' (by simpa using hk) (by omega) (by rwa [show i + (k + 1) = i + 1 + k by omega])
  | e0 :: es, i, f, j + 1, e, h, hs, hu, hl => by
    simp only [repF]
    exact repF_last u es (i + 1) _ j e (by simpa using h) (by rwa [show i + 1 + j = i + (j + 1) by omega]) hu
      fun k e' hk hlt hs => hl (k + 1) e' (by simpa using hk) (by omega) (by rwa [show i + (k + 1) = i + 1 + k by omega])

/-! ### what the first run says of each operation -/
structure EntOk (C : Cfg) (call : CallF) (ops : Array Oper) (o : Oper) (s : Option Nat) (e : Ent) (t : List AVal) (h : AHeap) : Prop where
  dst : e.dst = o.dst
  ok : dstOk t o.dst = true
  looks : e.looks = o.looksAt ops
  run : (aWanted ops t o = some false ∧ e.v = .tup [] ∧ e.p = []) ∨
    (aWanted ops t o = some true ∧ aStep C call true h s t o = some (.ret e.v, e.p) ∧ foot h s t o = (e.rd, e.wr))
  inWr : ∀ x, x ∈ e.p → x.1 ∈ e.wr ∧ x.1 < h.length

theorem replayT_length : ∀ (es : List Ent) (t : List AVal), (replayT es t).length = t.length
  | [], _ => rfl
  | e :: es, t => by simp only [replayT]; rw [replayT_length es, aPut_length]

theorem drawGo_spec {C : Cfg} {call : CallF} {ops : Array Oper} : ∀ {l : List (Oper × Option Nat)} {t : List AVal} {h : AHeap} {es : List Ent}, drawGo C call ops l t h = some es →
    es.length = l.length ∧ ∀ (j : Nat) (o : Oper) (s : Option Nat), l[j]? = some (o, s) → ∃ e, es[j]? = some e ∧ EntOk C call ops o s e (replayT (es.take j) t) (replayH (es.take j) h)
  | [], t, h, es, hr => by
    simp only [drawGo, Option.some.injEq] at hr
    subst hr
    exact ⟨rfl, fun j o s hj => by simp at hj⟩
  | (o0, s0) :: rest, t, h, es, hr => by
    simp only [drawGo] at hr
    split at hr
    · rename_i hd
      split at hr
      · rename_i hw
        split at hr
        · rename_i es' hes
          simp only [Option.some.injEq] at hr
          subst hr
          obtain ⟨h1, h2⟩ := drawGo_spec hes
          refine ⟨by simp [h1], fun j o s hj => ?_⟩
          cases j with
          | zero =>
            simp only [List.getElem?_cons_zero, Option.some.injEq, Prod.mk.injEq] at hj
            obtain ⟨rfl, rfl⟩ := hj
            exact ⟨_, rfl, rfl, hd, rfl, .inl ⟨hw, rfl, rfl⟩, fun x hx => by simp at hx⟩
          | succ j =>
            obtain ⟨e, k1, k2⟩ := h2 j o s (by simpa using hj)
            exact ⟨e, by simpa using k1, by simpa [replayT, replayH, applyP] using k2⟩
        · simp at hr
      · rename_i hw
        split at hr
        · rename_i v p hst
          split at hr
          · rename_i hp
            split at hr
            · rename_i es' hes
              simp only [Option.some.injEq] at hr
              subst hr
              obtain ⟨h1, h2⟩ := drawGo_spec hes
              refine ⟨by simp [h1], fun j o s hj => ?_⟩
              cases j with
              | zero =>
                simp only [List.getElem?_cons_zero, Option.some.injEq, Prod.mk.injEq] at hj
                obtain ⟨rfl, rfl⟩ := hj
                refine ⟨_, rfl, rfl, hd, rfl, .inr ⟨hw, hst, rfl⟩, fun x hx => ?_⟩
                have := List.all_eq_true.1 hp x hx
                have h3 : x.fst ∈ (foot h s0 t o0).snd ∧ x.fst < h.length := by simpa using this
                exact h3
              | succ j =>
                obtain ⟨e, k1, k2⟩ := h2 j o s (by simpa using hj)
                exact ⟨e, by simpa using k1, by simpa [replayT, replayH] using k2⟩
            · simp at hr
          · simp at hr
        · simp at hr
      · simp at hr
    · simp at hr

theorem withSlots_get (C : Cfg) : ∀ (l : List Oper) (n j : Nat) (o : Oper), l[j]? = some o → ∃ s, (withSlots C n l)[j]? = some (o, s)
  | [], _, _, _, h => by simp at h
  | x :: l, n, 0, o, h => by
    simp only [List.getElem?_cons_zero, Option.some.injEq] at h
    subst h
    unfold withSlots
    split <;> exact ⟨_, rfl⟩
  | x :: l, n, j + 1, o, h => by
    unfold withSlots
    split
    · obtain ⟨s, hs⟩ := withSlots_get C l (n + 1) j o (by simpa using h)
      exact ⟨s, by simpa using hs⟩
    · obtain ⟨s, hs⟩ := withSlots_get C l n j o (by simpa using h)
      exact ⟨s, by simpa using hs⟩

theorem withSlots_length (C : Cfg) : ∀ (l : List Oper) (n : Nat), (withSlots C n l).length = l.length
  | [], _ => rfl
  | x :: l, n => by unfold withSlots; split <;> simp [withSlots_length C l]

/-! ### the order of the edges -/
theorem befStep_bit (acc : List Nat) (k : Nat) : ∀ (es : List Edge) (s : Nat), (befStep acc es s).testBit k = true →
    s.testBit k = true ∨ ∃ e, e ∈ es ∧ Region.binds .any e = true ∧ (k = e.on ∨ (acc.getD e.on 0).testBit k = true)
  | [], s, h => .inl h
  | e :: es, s, h => by
    simp only [befStep] at h
    rcases befStep_bit acc k es _ h with h | ⟨e', h1, h2, h3⟩
    · split at h
      · rename_i hb
        rw [Nat.testBit_or, Nat.testBit_or, Bool.or_eq_true, Bool.or_eq_true] at h
        rcases h with (h | h) | h
        · exact .inl h
        · refine .inr ⟨e, List.mem_cons_self, hb, .inl ?_⟩
          rw [Nat.testBit_two_pow] at h
          exact (of_decide_eq_true h).symm
        · exact .inr ⟨e, List.mem_cons_self, hb, .inr h⟩
      · exact .inl h
    · exact .inr ⟨e', List.mem_cons_of_mem _ h1, h2, h3⟩

theorem befM_old : ∀ (l : List Oper) (acc : List Nat) (i : Nat), i < acc.length → (befM l acc).getD i 0 = acc.getD i 0
  | [], _, _, _ => rfl
  | o :: r, acc, i, h => by
    simp only [befM]
    rw [befM_old r _ i (by simp; omega)]
    simp only [List.getD_eq_getElem?_getD]
    rw [List.getElem?_append_left h]

theorem befM_spec : ∀ (l : List Oper) (acc : List Nat), edgesOk acc.length l = true → ∀ (j : Nat) (o : Oper), l[j]? = some o → ∀ k, ((befM l acc).getD (acc.length + j) 0).testBit k = true →
    ∃ e, e ∈ o.after.toList ∧ Region.binds .any e = true ∧ e.on < acc.length + j ∧ (k = e.on ∨ ((befM l acc).getD e.on 0).testBit k = true)
  | [], _, _, _, _, h, _, _ => by simp at h
  | o0 :: r, acc, hok, 0, o, h, k, hk => by
    simp only [List.getElem?_cons_zero, Option.some.injEq] at h
    subst h
    simp only [edgesOk, Bool.and_eq_true] at hok
    simp only [befM, Nat.add_zero] at hk ⊢
    rw [befM_old r _ _ (by simp)] at hk
    rw [List.getD_eq_getElem?_getD, List.getElem?_append_right (Nat.le_refl _)] at hk
    simp only [Nat.sub_self, List.getElem?_cons_zero, Option.getD_some] at hk
    rcases befStep_bit acc k _ _ hk with h | ⟨e, h1, h2, h3⟩
    · simp at h
    · have hlt : e.on < acc.length := by
        have := List.all_eq_true.1 hok.1 e h1
        simpa [h2] using this
      refine ⟨e, h1, h2, hlt, ?_⟩
      rcases h3 with h3 | h3
      · exact .inl h3
      · refine .inr ?_
        rw [befM_old r _ _ (by simp; omega)]
        simp only [List.getD_eq_getElem?_getD] at h3 ⊢
        rw [List.getElem?_append_left hlt]
        exact h3
  | o0 :: r, acc, hok, j + 1, o, h, k, hk => by
    simp only [edgesOk, Bool.and_eq_true] at hok
    have hlen : (acc ++ [befStep acc o0.after.toList 0]).length = acc.length + 1 := by simp
    have := befM_spec r (acc ++ [befStep acc o0.after.toList 0]) (by rw [hlen]; exact hok.2) j o (by simpa using h) k (by
      rw [hlen, show acc.length + 1 + j = acc.length + (j + 1) by omega]; exact hk)
    rw [hlen, show acc.length + 1 + j = acc.length + (j + 1) by omega] at this
    exact this

theorem edgesOk_get : ∀ (l : List Oper) (n : Nat), edgesOk n l = true → ∀ (j : Nat) (o : Oper), l[j]? = some o → ∀ e, e ∈ o.after.toList → Region.binds .any e = true → e.on < n + j
  | [], _, _, _, _, h, _, _, _ => by simp at h
  | o0 :: r, n, hok, 0, o, h, e, he, hb => by
    simp only [List.getElem?_cons_zero, Option.some.injEq] at h
    subst h
    simp only [edgesOk, Bool.and_eq_true] at hok
    have := List.all_eq_true.1 hok.1 e he
    simpa [hb] using this
  | o0 :: r, n, hok, j + 1, o, h, e, he, hb => by
    simp only [edgesOk, Bool.and_eq_true] at hok
    have := edgesOk_get r (n + 1) hok.2 j o (by simpa using h) e he hb
    omega

theorem pairsOk_get (bef : List Nat) : ∀ (es : List Ent) (n : Nat), pairsOk bef n es = true → ∀ (i j : Nat) (x y : Ent), i < j → es[i]? = some x → es[j]? = some y →
    (bef.getD (n + j) 0).testBit (n + i) = true ∨ x.apart y = true
  | [], _, _, _, _, _, _, _, hx, _ => by simp at hx
  | _ :: _, _, _, _, 0, _, _, hlt, _, _ => by omega
  | e :: es, n, hok, 0, j + 1, x, y, _, hx, hy => by
    simp only [List.getElem?_cons_zero, Option.some.injEq] at hx
    subst hx
    simp only [pairsOk, Bool.and_eq_true] at hok
    have hm : (y, n + 1 + j) ∈ es.zipIdx (n + 1) := by
      rw [List.mem_iff_getElem?]
      exact ⟨j, by rw [List.getElem?_zipIdx]; simp at hy; simp [hy]⟩
    have := List.all_eq_true.1 hok.1 _ hm
    simp only [Bool.or_eq_true] at this
    rwa [show n + (j + 1) = n + 1 + j by omega, Nat.add_zero]
  | e :: es, n, hok, i + 1, j + 1, x, y, hlt, hx, hy => by
    simp only [pairsOk, Bool.and_eq_true] at hok
    have := pairsOk_get bef es (n + 1) hok.2 i j x y (by omega) (by simpa using hx) (by simpa using hy)
    rwa [show n + (j + 1) = n + 1 + j by omega, show n + (i + 1) = n + 1 + i by omega]

theorem disj_spec {a b : List Nat} (h : disj a b = true) : ∀ x, x ∈ a → x ∉ b := fun x hx => by
  have := List.all_eq_true.1 h x hx
  simpa using this

structure ApartS (x y : Ent) : Prop where
  dl : ∀ d, x.dst = some d → d ∉ y.looks ∧ y.dst ≠ some d
  ld : ∀ d, y.dst = some d → d ∉ x.looks
  w : ∀ l, l ∈ x.wr → l ∉ y.rd ∧ l ∉ y.wr
  r : ∀ l, l ∈ x.rd → l ∉ y.wr

theorem apart_spec {x y : Ent} (h : x.apart y = true) : ApartS x y := by
  unfold Ent.apart at h
  simp only [Bool.and_eq_true] at h
  obtain ⟨⟨⟨h1, h2⟩, h3⟩, h4⟩ := h
  refine ⟨fun d hd => ?_, fun d hd => ?_, fun l hl => ?_, disj_spec h4⟩
  · simp only [hd, Bool.and_eq_true, Bool.not_eq_true', bne_iff_ne, ne_eq] at h1
    exact ⟨by simpa using h1.1, h1.2⟩
  · simp only [hd, Bool.not_eq_true'] at h2
    simpa using h2
  · have := disj_spec h3 l hl
    simpa using this

end Go.Proofs.Ae
